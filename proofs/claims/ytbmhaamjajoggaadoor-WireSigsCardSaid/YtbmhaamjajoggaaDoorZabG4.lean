/- Calls: what is lent, and how it is called there. No statement of the program stands here. -/
import Derived.Test.YtbmhaamjajoggaaDoorZabG3
namespace Zab
open Go
set_option linter.unusedSimpArgs false
set_option linter.unusedVariables false

def oneV : List Value → Value
  | [x] => x
  | l => .tuple l.toArray

/-- What a call comes to. -/
structure Out (E : Env) (w : World) (M X : Nat → Prop) (A K : Nat → Nat) (args : List AV) (r : Ret) (cv : Value) (w' : World) : Prop where
  mk ::
  ex : ∃ (S : St) (a : Act) (A' K' : Nat → Nat) (nt : Nat) (raws rs : List AV) (cvs : List Value) (h s h' : List Nat),
    Rel ⟨E, w, M, X, args.length, nt, A, K, [], fun _ => undef, false⟩ A' K' S a w' ∧ raws.length = cvs.length ∧
    (∀ j (h1 : j < raws.length) (h2 : j < cvs.length), VRep E args.length w' (Still ⟨E, w, M, X, args.length, nt, A, K, [], fun _ => undef, false⟩ A' K' S.l w') A' K' raws[j] cvs[j]) ∧
    toRets args.length S.l raws raws = some (rs, h, s) ∧ lentOf S.l 0 args = some (r.lent, h') ∧ okFin args.length (h ++ h') s = true ∧ r.v = one rs ∧ cv = oneV cvs

structure CallSound (E : Env) (call : CallF) : Prop where
  body : ∀ f args r, call f args = some r → ∃ fn c, E.P.funcs[f]? = some fn ∧ (fn.name == "runtime.NumGoroutine") = false ∧ fn.body = some c
  len : ∀ f args r, call f args = some r → args.length ≤ 1000000
  calls : ∀ f args r, call f args = some r → ∀ (w : World) (M X : Nat → Prop) (A K : Nat → Nat) (cargs : Array Value),
    Rel ⟨E, w, M, X, args.length, cargs.size, A, K, [], fun _ => undef, false⟩ A K ⟨enterS 0 args, enterL 0 args⟩ ⟨cargs, []⟩ w → cargs.size = args.length →
    Calls E.P f cargs w fun e w' => ∃ cv, e = .returned cv ∧ Out E w M X A K args r cv w'

/-! ### Rows by their list -/

theorem look_mem {l : List (Nat × List AV)} {d : Nat} {cs : List AV} (h : look l d = some cs) : (d, cs) ∈ l := by
  induction l with
  | nil => cases h
  | cons p r ih =>
    obtain ⟨e, c⟩ := p
    simp only [look] at h
    cases hb : Nat.beq e d
    · rw [hb] at h; exact List.mem_cons_of_mem _ (ih h)
    · rw [hb] at h
      have := Nat.eq_of_beq_eq_true hb
      subst this
      simp only [cond_true, Option.some.injEq] at h
      subst h; exact List.mem_cons_self

theorem mem_look {l : List (Nat × List AV)} {d : Nat} {cs : List AV} (hn : (keys l).Nodup) (h : (d, cs) ∈ l) : look l d = some cs := by
  induction l with
  | nil => cases h
  | cons p r ih =>
    obtain ⟨e, c⟩ := p
    simp only [keys, List.nodup_cons] at hn
    simp only [look]
    rcases List.mem_cons.1 h with h | h
    · cases h; simp [Nat.beq_refl]
    · cases hb : Nat.beq e d
      · simpa using ih hn.2 h
      · have := Nat.eq_of_beq_eq_true hb
        subst this
        exact absurd (keys_mem.2 ⟨cs, h⟩) hn.1

theorem keys_append (l m : List (Nat × List AV)) : keys (l ++ m) = keys l ++ keys m := by
  induction l with
  | nil => rfl
  | cons p r ih => obtain ⟨e, c⟩ := p; simp [keys, ih]

/-! ### How what is lent is called: pairs of the callee's name and the caller's -/

def cellPair (E o : Nat) : AV → List (Nat × Nat)
  | .rf e 0 => [(child E o, e)]
  | .rs e 0 _ _ => [(child E o, e)]
  | _ => []
def pC (E : Nat) : Nat → List AV → List (Nat × Nat)
  | _, [] => []
  | o, x :: r => cellPair E o x ++ pC E (o + 1) r
def pR (l : List (Nat × List AV)) (i : Nat) : AV → List (Nat × Nat)
  | .rf d 0 =>
    (match look l d with
     | some cs => bif isRef d then (1000000000000 + i, d) :: pC (1000000000000 + i) 0 cs else [(i, d)]
     | none => [])
  | _ => []
def pP (l : List (Nat × List AV)) (j : Nat) : Nat → List AV → List (Nat × Nat)
  | _, [] => []
  | k, x :: r => pR l (partId j k) x ++ pP l j (k + 1) r
def pA (mv : List Nat) (l : List (Nat × List AV)) (j : Nat) : AV → List (Nat × Nat)
  | .aq cs => pP l j 0 cs
  | .fn _ cs => pP l j 0 cs
  | .rs d 0 _ _ => bif memb mv d then [(1000000000 + j, d)] else []
  | x => pR l j x
def pIn (mv : List Nat) (l : List (Nat × List AV)) : Nat → List AV → List (Nat × Nat)
  | _, [] => []
  | j, x :: r => pA mv l j x ++ pIn mv l (j + 1) r

/-- A value of one cell, under the other names (Cs: those of what lent rows hold). -/
inductive Ren (P : List (Nat × Nat)) (Cs : List Nat) : AV → AV → Prop
  | same (x : AV) (h : x.flat = true ∨ x = .gone) : Ren P Cs x x
  | rf (d e : Nat) (h : (e, d) ∈ P) : Ren P Cs (.rf d 0) (.rf e 0)
  | rs (d e n sz : Nat) (h : (e, d) ∈ P) (hc : e ∈ Cs) : Ren P Cs (.rs d 0 n sz) (.rs e 0 n sz)

section
variable {mv : List Nat} {P Q : List (Nat × Nat)} {Cs Ds : List Nat} {l : List (Nat × List AV)}

theorem Ren.mono (h : ∀ p ∈ P, p ∈ Q) (hc : ∀ e ∈ Cs, e ∈ Ds) {x y : AV} (hr : Ren P Cs x y) : Ren Q Ds x y := by
  cases hr with
  | same _ hx => exact .same _ hx
  | rf d e hp => exact .rf d e (h _ hp)
  | rs d e n sz hp hq => exact .rs d e n sz (h _ hp) (hc _ hq)

/-- Cell by cell. -/
def RenL (P : List (Nat × Nat)) (Cs : List Nat) (xs ys : List AV) : Prop := xs.length = ys.length ∧ ∀ j (h1 : j < xs.length) (h2 : j < ys.length), Ren P Cs xs[j] ys[j]
theorem RenL.nil : RenL P Cs [] [] := ⟨rfl, fun j h => by simp at h⟩
theorem RenL.cons {x y : AV} {xs ys : List AV} (h : Ren P Cs x y) (hs : RenL P Cs xs ys) : RenL P Cs (x :: xs) (y :: ys) :=
  ⟨by simp [hs.1], fun j h1 h2 => by
    cases j with
    | zero => exact h
    | succ j => exact hs.2 j (Nat.lt_of_succ_lt_succ h1) (Nat.lt_of_succ_lt_succ h2)⟩
theorem RenL.mono (h : ∀ p ∈ P, p ∈ Q) (hc : ∀ e ∈ Cs, e ∈ Ds) {xs ys : List AV} (hr : RenL P Cs xs ys) : RenL Q Ds xs ys := ⟨hr.1, fun j h1 h2 => (hr.2 j h1 h2).mono h hc⟩

/-- What comes with one cell. -/
theorem gath1_of {E o : Nat} {x g : AV} {is : List Nat} (h : gath1 l x = some (g, is)) :
    (cellPair E o x).map (·.2) = is ∧ (cellPair E o x).map (·.1) = keys (rows1 E o g) ∧ Ren (cellPair E o x) (keys (rows1 E o g)) x (scat1 E o g) ∧
    (∀ p ∈ rows1 E o g, ∃ d, (p.1, d) ∈ cellPair E o x ∧ look l d = some p.2 ∧ isRef d = false) := by
  cases x
  case rf e off =>
    cases off with
    | succ n => simp [gath1] at h
    | zero =>
      simp only [gath1, Bool.cond_eq_ite] at h
      split at h <;> first | (cases h; done) | skip
      rename_i hr
      split at h <;> first | (cases h; done) | skip
      rename_i cs hl
      cases h
      refine ⟨rfl, rfl, .rf _ _ (by simp [cellPair]), fun p hp => ?_⟩
      simp only [rows1, List.mem_singleton] at hp
      subst hp
      exact ⟨e, by simp [cellPair], hl, by simpa using hr⟩
  case rs e off n sz =>
    cases off with
    | succ m => simp [gath1] at h
    | zero =>
      simp only [gath1, Bool.cond_eq_ite] at h
      split at h <;> first | (cases h; done) | skip
      rename_i hr
      split at h <;> first | (cases h; done) | skip
      rename_i cs hl
      cases h
      refine ⟨rfl, rfl, .rs _ _ _ _ (by simp [cellPair]) (by simp [rows1, keys]), fun p hp => ?_⟩
      simp only [rows1, List.mem_singleton] at hp
      subst hp
      exact ⟨e, by simp [cellPair], hl, by simpa using hr⟩
  case gone =>
    simp only [gath1, Option.some.injEq, Prod.mk.injEq] at h
    obtain ⟨rfl, rfl⟩ := h
    exact ⟨rfl, rfl, .same _ (.inr rfl), fun p hp => by simp [rows1] at hp⟩
  all_goals
    simp only [gath1, AV.flat, cond_true, cond_false] at h
    first
    | (cases h; done)
    | (simp only [Option.some.injEq, Prod.mk.injEq] at h
       obtain ⟨rfl, rfl⟩ := h
       exact ⟨rfl, rfl, .same _ (.inl rfl), fun p hp => by simp [rows1] at hp⟩)

theorem gathL_cons {x : AV} {r g : List AV} {is : List Nat} (h : gathL l (x :: r) = some (g, is)) :
    ∃ v i vs js, gath1 l x = some (v, i) ∧ gathL l r = some (vs, js) ∧ g = v :: vs ∧ is = i ++ js := by
  simp only [gathL] at h
  split at h <;> first | (cases h; done) | skip
  rename_i v i vs js h1 h2
  cases h
  exact ⟨v, i, vs, js, h1, h2, rfl, rfl⟩

theorem gathL_of {E : Nat} : ∀ {cs g : List AV} {is : List Nat} {o : Nat}, gathL l cs = some (g, is) →
    (pC E o cs).map (·.2) = is ∧ (pC E o cs).map (·.1) = keys (rowsL E o g) ∧ RenL (pC E o cs) (keys (rowsL E o g)) cs (scatL E o g) ∧
    (∀ p ∈ rowsL E o g, ∃ d, (p.1, d) ∈ pC E o cs ∧ look l d = some p.2 ∧ isRef d = false)
  | [], g, is, o, h => by
    simp only [gathL, Option.some.injEq, Prod.mk.injEq] at h
    obtain ⟨rfl, rfl⟩ := h
    exact ⟨rfl, rfl, .nil, fun p hp => by simp [rowsL] at hp⟩
  | x :: r, g, is, o, h => by
    obtain ⟨v, i, vs, js, h1, h2, rfl, rfl⟩ := gathL_cons h
    obtain ⟨a1, a2, a3, a4⟩ := gath1_of (E := E) (o := o) h1
    obtain ⟨b1, b2, b3, b4⟩ := gathL_of (E := E) (o := o + 1) h2
    refine ⟨by simp [pC, a1, b1], by simp [pC, rowsL, keys_append, a2, b2], .cons (a3.mono (fun p hp => by simp [pC, hp]) fun e he => by simp [rowsL, keys_append, he]) (b3.mono (fun p hp => by simp [pC, hp]) fun e he => by simp [rowsL, keys_append, he]), fun p hp => ?_⟩
    simp only [rowsL, List.mem_append] at hp
    rcases hp with hp | hp
    · obtain ⟨d, q1, q2, q3⟩ := a4 p hp; exact ⟨d, by simp [pC, q1], q2, q3⟩
    · obtain ⟨d, q1, q2, q3⟩ := b4 p hp; exact ⟨d, by simp [pC, q1], q2, q3⟩

/-- A row in the callee, of one in the caller. -/
structure RowOf (l : List (Nat × List AV)) (P : List (Nat × Nat)) (Cs : List Nat) (e : Nat) (c : List AV) : Prop where
  ex : ∃ d cs, (e, d) ∈ P ∧ look l d = some cs ∧ (isRef d = false → c = cs) ∧ (isRef d = true → RenL P Cs cs c ∧ isRef e = true)
theorem RowOf.mono (h : ∀ p ∈ P, p ∈ Q) (hc : ∀ e ∈ Cs, e ∈ Ds) {e : Nat} {c : List AV} (hr : RowOf l P Cs e c) : RowOf l Q Ds e c := by
  obtain ⟨d, cs, h1, h2, h3, h4⟩ := hr.ex
  exact ⟨d, cs, h _ h1, h2, h3, fun hh => ⟨(h4 hh).1.mono h hc, (h4 hh).2⟩⟩

/-- A value of a slot, under the other names, or by value. -/
inductive RenV (l : List (Nat × List AV)) (P : List (Nat × Nat)) (Cs : List Nat) : AV → AV → Prop
  | cell (x y : AV) (h : Ren P Cs x y) : RenV l P Cs x y
  | view (d off n sz : Nat) (v : AV) (h : viewR l d off n sz = some v) : RenV l P Cs (.rs d off n sz) v
theorem RenV.mono (h : ∀ p ∈ P, p ∈ Q) (hc : ∀ e ∈ Cs, e ∈ Ds) {x y : AV} (hr : RenV l P Cs x y) : RenV l Q Ds x y := by
  cases hr with
  | cell _ _ hx => exact .cell _ _ (hx.mono h hc)
  | view _ _ _ _ _ hv => exact .view _ _ _ _ _ hv

/-- The name, in the callee, of what is lent. -/
def nameAt (i : Nat) : AV → AV
  | .op _ => .rf i 0
  | .oq _ => .rf (1000000000000 + i) 0
  | x => x
theorem partN_nameAt (j k : Nat) (v : AV) : partN j k v = nameAt (partId j k) v := by cases v <;> rfl

theorem viewR_sl {d off n sz : Nat} {v : AV} (hv : viewR l d off n sz = some v) : ∃ cs, v = .sl cs n := by
  unfold viewR at hv
  cases hr : isRef d <;> rw [hr] at hv <;> first | (cases hv; done) | skip
  simp only [cond_false] at hv
  split at hv <;> first | (cases hv; done) | skip
  rename_i cs _
  cases hb : Nat.ble (off + n * sz) cs.length <;> rw [hb] at hv <;> cases hv
  exact ⟨_, rfl⟩

/-- What one lending says. -/
structure Lend1 (l : List (Nat × List AV)) (Pr : List (Nat × Nat)) (rows : List (Nat × List AV)) (roots kids ds ch : List Nat) : Prop where
  perm : (Pr.map (·.2)).Perm (ds ++ ch)
  fst : Pr.map (·.1) = keys rows
  row : ∀ p ∈ rows, RowOf l Pr kids p.1 p.2
  zip : ∀ p ∈ roots.zip ds, p ∈ Pr
  len : roots.length = ds.length
  kid : ∀ e ∈ keys rows, e ∈ roots ∨ e ∈ kids
  nil : ds = [] → ch = [] → rows = [] ∧ kids = []

theorem Lend1.none : Lend1 l [] [] [] [] [] [] := ⟨.nil, rfl, fun p h => by simp at h, fun p h => by simp at h, rfl, fun e h => by simp [keys] at h, fun _ _ => ⟨rfl, rfl⟩⟩

theorem Lend1.append {P1 P2 : List (Nat × Nat)} {r1 r2 : List (Nat × List AV)} {o1 o2 k1 k2 d1 d2 c1 c2 : List Nat} (h1 : Lend1 l P1 r1 o1 k1 d1 c1) (h2 : Lend1 l P2 r2 o2 k2 d2 c2) :
    Lend1 l (P1 ++ P2) (r1 ++ r2) (o1 ++ o2) (k1 ++ k2) (d1 ++ d2) (c1 ++ c2) where
  perm := by
    rw [List.map_append]
    refine (h1.perm.append h2.perm).trans ?_
    rw [List.append_assoc, List.append_assoc]
    refine List.Perm.append_left d1 ?_
    rw [← List.append_assoc, ← List.append_assoc]
    exact List.perm_append_comm.append_right c2
  fst := by rw [List.map_append, keys_append, h1.fst, h2.fst]
  row := fun p hp => by
    rcases List.mem_append.1 hp with hp | hp
    · exact (h1.row p hp).mono (fun q hq => List.mem_append_left _ hq) (fun q hq => List.mem_append_left _ hq)
    · exact (h2.row p hp).mono (fun q hq => List.mem_append_right _ hq) (fun q hq => List.mem_append_right _ hq)
  zip := fun p hp => by
    rw [List.zip_append h1.len] at hp
    rcases List.mem_append.1 hp with hp | hp
    · exact List.mem_append_left _ (h1.zip p hp)
    · exact List.mem_append_right _ (h2.zip p hp)
  len := by simp [h1.len, h2.len]
  kid := fun e he => by
    rw [keys_append] at he
    rcases List.mem_append.1 he with he | he
    · rcases h1.kid e he with h | h <;> simp [h]
    · rcases h2.kid e he with h | h <;> simp [h]
  nil := fun h hc => by
    simp only [List.append_eq_nil_iff] at h hc
    obtain ⟨a1, a2⟩ := h1.nil h.1 hc.1
    obtain ⟨b1, b2⟩ := h2.nil h.2 hc.2
    simp [a1, a2, b1, b2]

theorem lendP_of {i : Nat} {x v : AV} {ds ch : List Nat} (h : lendP l x = some (v, ds, ch)) :
    Lend1 l (pR l i x) (lentRows i v) (rootsR i v) (childR i v) ds ch ∧ RenV l (pR l i x) (childR i v) x (nameAt i v) ∧ (ds = [] → v.flat = true) ∧ (∀ cs, v ≠ .aq cs) ∧ (∀ f cs, v ≠ .fn f cs) ∧ (∀ cs n sz, v ≠ .os cs n sz) := by
  cases x
  case rf d off =>
    cases off with
    | succ n => simp [lendP] at h
    | zero =>
      simp only [lendP] at h
      split at h <;> first | (cases h; done) | skip
      rename_i cs hl
      cases hr : isRef d
      · simp only [hr, cond_false, Option.some.injEq, Prod.mk.injEq] at h
        obtain ⟨rfl, rfl, rfl⟩ := h
        have e1 : pR l i (.rf d 0) = [(i, d)] := by simp [pR, hl, hr]
        rw [e1]
        refine ⟨⟨.refl _, rfl, fun p hp => ?_, fun p hp => by simpa [rootsR] using hp, rfl, fun e he => .inl (by simpa [lentRows, keys, rootsR] using he), fun h => by cases h⟩, .cell _ _ (.rf _ _ (by simp)), by simp, by simp, by simp, by simp⟩
        simp only [lentRows, List.mem_singleton] at hp
        subst hp
        exact ⟨d, cs, by simp, hl, fun _ => rfl, fun h => (by rw [hr] at h; cases h)⟩
      · simp only [hr, cond_true] at h
        split at h <;> first | (cases h; done) | skip
        rename_i c ch' hg
        cases h
        obtain ⟨b1, b2, b3, b4⟩ := gathL_of (E := 1000000000000 + i) (o := 0) hg
        have e1 : pR l i (.rf d 0) = (1000000000000 + i, d) :: pC (1000000000000 + i) 0 cs := by simp [pR, hl, hr]
        rw [e1]
        have hz : ∀ p ∈ (rootsR i (.oq c)).zip [d], p ∈ (1000000000000 + i, d) :: pC (1000000000000 + i) 0 cs := fun p hp => by
          have : p = (1000000000000 + i, d) := by simpa [rootsR] using hp
          rw [this]; exact List.mem_cons_self
        refine ⟨⟨by simp [b1], by simp [lentRows, keys, b2], fun p hp => ?_, hz, rfl, fun e he => by simpa [lentRows, keys, rootsR, childR] using he, fun h => by cases h⟩, .cell _ _ (.rf _ _ (by simp)), by simp, by simp, by simp, by simp⟩
        simp only [lentRows, List.mem_cons] at hp
        rcases hp with rfl | hp
        · exact ⟨d, cs, by simp, hl, fun h => (by rw [hr] at h; cases h), fun _ => ⟨b3.mono (fun p hp => by simp [hp]) fun e he => by simpa [childR] using he, slot_ref i⟩⟩
        · obtain ⟨x, q1, q2, q3⟩ := b4 p hp
          exact ⟨x, p.2, by simp [q1], q2, fun _ => rfl, fun h => (by rw [q3] at h; cases h)⟩
  case rs d off n sz =>
    simp only [lendP] at h
    split at h <;> first | (cases h; done) | skip
    rename_i v' hv
    cases h
    obtain ⟨cs, rfl⟩ := viewR_sl hv
    exact ⟨.none, .view _ _ _ _ _ hv, fun _ => rfl, by simp, by simp, by simp⟩
  all_goals
    simp only [lendP, AV.flat, cond_true, cond_false] at h
    first
    | (cases h; done)
    | (simp only [Option.some.injEq, Prod.mk.injEq] at h
       obtain ⟨rfl, rfl, rfl⟩ := h
       exact ⟨.none, .cell _ _ (.same _ (.inl rfl)), fun _ => rfl, by simp, by simp, by simp⟩)

theorem lendPL_of {j : Nat} : ∀ {xs vs : List AV} {ds ch : List Nat} {k : Nat}, lendPL l xs = some (vs, ds, ch) →
    Lend1 l (pP l j k xs) (partRows j k vs) (rootsP j k vs) (childP j k vs) ds ch ∧ xs.length = vs.length ∧
    (∀ i (h1 : i < xs.length) (h2 : i < (partsN j k vs).length), RenV l (pP l j k xs) (childP j k vs) xs[i] (partsN j k vs)[i]) ∧ (partsN j k vs).length = vs.length ∧ (ds = [] → (∀ v ∈ vs, v.flat = true) ∧ partsN j k vs = vs)
  | [], vs, ds, ch, k, h => by
    simp only [lendPL, Option.some.injEq, Prod.mk.injEq] at h
    obtain ⟨rfl, rfl, rfl⟩ := h
    exact ⟨.none, rfl, fun i h => by simp at h, rfl, fun _ => ⟨by simp, rfl⟩⟩
  | x :: r, vs, ds, ch, k, h => by
    simp only [lendPL] at h
    split at h <;> first | (cases h; done) | skip
    rename_i v d c vs' ds' cs' h1 h2
    cases h
    obtain ⟨a1, a2, a3, a4⟩ := lendP_of (i := partId j k) h1
    obtain ⟨b1, b2, b3, b4, b5⟩ := lendPL_of (j := j) (k := k + 1) h2
    refine ⟨a1.append b1, by simp [b2], fun i p q => ?_, by simp [partsN, b4], fun he => ?_⟩
    · cases i with
      | zero =>
        simp only [List.getElem_cons_zero, partsN, partN_nameAt]
        exact a2.mono (fun q hq => List.mem_append_left _ hq) (fun q hq => List.mem_append_left _ hq)
      | succ i =>
        simp only [List.getElem_cons_succ, partsN]
        exact (b3 i (by simpa using p) (by simpa [partsN] using q)).mono (fun q hq => List.mem_append_right _ hq) (fun q hq => List.mem_append_right _ hq)
    · simp only [List.append_eq_nil_iff] at he
      obtain ⟨c1, c2⟩ := b5 he.2
      have hf := a3 he.1
      refine ⟨fun u hu => ?_, ?_⟩
      · rcases List.mem_cons.1 hu with rfl | hu
        · exact hf
        · exact c1 u hu
      · simp only [partsN, c2]
        congr 1
        cases v <;> first | rfl | cases hf

/-- An argument, as the callee sees it. -/
inductive ArgOf (mv : List Nat) (l : List (Nat × List AV)) (P : List (Nat × Nat)) (Cs : List Nat) : AV → AV → Prop
  | one (x y : AV) (h : Ren P Cs x y) : ArgOf mv l P Cs x y
  | val (x v : AV) (h : toArg l x = some v) (hn : ∀ cs, x ≠ .aq cs) (hm : ∀ d o n sz, x = .rs d o n sz → memb mv d = false) : ArgOf mv l P Cs x v
  | ag (xs vs : List AV) (hl : xs.length = vs.length) (h : ∀ i (h1 : i < xs.length) (h2 : i < vs.length), RenV l P Cs xs[i] vs[i]) (hf : ∀ v ∈ vs, v.flat = true) : ArgOf mv l P Cs (.aq xs) (.ag vs)
  | aq (xs ys : List AV) (hl : xs.length = ys.length) (h : ∀ i (h1 : i < xs.length) (h2 : i < ys.length), RenV l P Cs xs[i] ys[i]) : ArgOf mv l P Cs (.aq xs) (.aq ys)
  | fn (f : Nat) (xs ys : List AV) (hl : xs.length = ys.length) (h : ∀ i (h1 : i < xs.length) (h2 : i < ys.length), RenV l P Cs xs[i] ys[i]) : ArgOf mv l P Cs (.fn f xs) (.fn f ys)
theorem ArgOf.mono (h : ∀ p ∈ P, p ∈ Q) (hc : ∀ e ∈ Cs, e ∈ Ds) {x y : AV} (hr : ArgOf mv l P Cs x y) : ArgOf mv l Q Ds x y := by
  cases hr with
  | one _ _ hx => exact .one _ _ (hx.mono h hc)
  | val _ _ hx hn hm => exact .val _ _ hx hn hm
  | ag xs vs hl hx hf => exact .ag xs vs hl (fun i p q => (hx i p q).mono h hc) hf
  | aq xs vs hl hx => exact .aq xs vs hl fun i p q => (hx i p q).mono h hc
  | fn f xs vs hl hx => exact .fn f xs vs hl fun i p q => (hx i p q).mono h hc

theorem toArg_plain {x v : AV} (h : toArg l x = some v) (hn : ∀ cs, x ≠ .aq cs) (hm : ∀ d o n sz, x = .rs d o n sz → memb mv d = false) : (∀ j, slotOf j v = v ∧ argRows j v = [] ∧ rootsA j v = [] ∧ childA j v = []) ∧ (∀ j, pA mv l j x = []) := by
  cases x
  case rs d off n sz =>
    simp only [toArg] at h
    obtain ⟨cs, rfl⟩ := viewR_sl h
    exact ⟨fun j => ⟨rfl, rfl, rfl, rfl⟩, fun j => by cases off <;> simp [pA, pR, hm d _ n sz rfl]⟩
  case aq cs => exact absurd rfl (hn cs)
  case fn f cs =>
    cases cs with
    | nil => simp only [toArg, Option.some.injEq] at h; subst h; exact ⟨fun j => ⟨rfl, rfl, rfl, rfl⟩, fun j => rfl⟩
    | cons c cs => simp [toArg] at h
  all_goals (simp only [toArg] at h; first | (cases h; done) | (simp only [Option.some.injEq] at h; subst h; exact ⟨fun j => ⟨rfl, rfl, rfl, rfl⟩, fun j => rfl⟩))

theorem lend1_of {j : Nat} {x v : AV} {ds ch : List Nat} (h : lend1 mv l x = some (v, ds, ch)) :
    Lend1 l (pA mv l j x) (argRows j v) (rootsA j v) (childA j v) ds ch ∧ ArgOf mv l (pA mv l j x) (childA j v) x (slotOf j v) := by
  have plainCase : ∀ {x : AV}, (match toArg l x with | some v => some (v, ([] : List Nat), ([] : List Nat)) | none => none) = some (v, ds, ch) → (∀ cs, x ≠ .aq cs) → (∀ d o n sz, x = .rs d o n sz → memb mv d = false) →
      Lend1 l (pA mv l j x) (argRows j v) (rootsA j v) (childA j v) ds ch ∧ ArgOf mv l (pA mv l j x) (childA j v) x (slotOf j v) := by
    intro x h hn hm
    split at h <;> first | (cases h; done) | skip
    rename_i u hu
    cases h
    obtain ⟨h1, h2⟩ := toArg_plain (mv := mv) hu hn hm
    obtain ⟨a1, a2, a3, a4⟩ := h1 j
    rw [a1, a2, a3, a4, h2 j]
    exact ⟨.none, .val _ _ hu hn hm⟩
  cases x
  case rs d off n sz =>
    cases hm : memb mv d
    · simp only [lend1, hm, cond_false] at h
      exact plainCase (x := .rs d off n sz) (by simp only [toArg]; exact h) (by simp) (fun d' o n sz e => by cases e; exact hm)
    · simp only [lend1, hm, cond_true] at h
      split at h <;> first | (cases h; done) | skip
      rename_i cs hl
      cases hr : isRef d <;> rw [hr] at h <;> first | (cases h; done) | skip
      cases h
      have e1 : pA mv l j (.rs d 0 n sz) = [(1000000000 + j, d)] := by simp [pA, hm]
      rw [e1]
      refine ⟨⟨.refl _, rfl, fun p hp => ?_, fun p hp => by simp [rootsA, rootsR] at hp, rfl, fun e he => .inr (by simpa [argRows, keys, childA] using he), fun _ h => by cases h⟩, .one _ _ (.rs d _ n sz (by simp) (by simp [childA]))⟩
      simp only [argRows, List.mem_singleton] at hp
      subst hp
      exact ⟨d, cs, by simp, hl, fun _ => rfl, fun h => (by rw [hr] at h; cases h)⟩
  case rf d o =>
    simp only [lend1] at h
    obtain ⟨a1, a2, a3, a4, a5, a6⟩ := lendP_of (i := j) h
    have e1 : slotOf j v = nameAt j v := by cases v <;> first | rfl | exact absurd rfl (a4 _) | exact absurd rfl (a5 _ _) | exact absurd rfl (a6 _ _ _)
    have e2 : argRows j v = lentRows j v := by cases v <;> first | rfl | exact absurd rfl (a4 _) | exact absurd rfl (a5 _ _) | exact absurd rfl (a6 _ _ _)
    have e3 : rootsA j v = rootsR j v := by cases v <;> first | rfl | exact absurd rfl (a4 _) | exact absurd rfl (a5 _ _) | exact absurd rfl (a6 _ _ _)
    have e4 : childA j v = childR j v := by cases v <;> first | rfl | exact absurd rfl (a4 _) | exact absurd rfl (a5 _ _) | exact absurd rfl (a6 _ _ _)
    have e5 : pA mv l j (.rf d o) = pR l j (.rf d o) := rfl
    rw [e1, e2, e3, e4, e5]
    refine ⟨a1, .one _ _ ?_⟩
    cases a2 with
    | cell _ _ h => exact h
  case aq cs =>
    simp only [lend1] at h
    split at h <;> first | (cases h; done) | skip
    rename_i vs ds' ch' hp
    cases h
    obtain ⟨a1, a2, a3, a4, a5⟩ := lendPL_of (j := j) (k := 0) hp
    cases hd : ds.isEmpty
    · simp only [cond_false]
      exact ⟨a1, .aq _ _ (by rw [a4]; exact a2) a3⟩
    · simp only [cond_true]
      have hd' : ds = [] := by simpa using hd
      subst hd'
      obtain ⟨c1, c2⟩ := a5 rfl
      -- nothing is lent
      have r0 : ∀ {vs : List AV} {k : Nat}, (∀ v ∈ vs, v.flat = true) → partRows j k vs = [] ∧ rootsP j k vs = [] ∧ childP j k vs = [] := by
        intro vs
        induction vs with
        | nil => intro k _; exact ⟨rfl, rfl, rfl⟩
        | cons u r ih =>
          intro k hf
          obtain ⟨i1, i2, i3⟩ := ih (k := k + 1) fun v hv => hf v (by simp [hv])
          have hu := hf u (by simp)
          simp only [partRows, rootsP, childP, i1, i2, i3, List.append_nil]
          cases u <;> first | exact ⟨rfl, rfl, rfl⟩ | cases hu
      obtain ⟨q1, q2, q3⟩ := r0 (k := 0) c1
      rw [q1, q2, q3] at a1
      rw [q3, c2] at a3
      exact ⟨a1, .ag _ _ a2 (fun i p q => a3 i p q) c1⟩
  case fn f cs =>
    cases cs with
    | nil => exact plainCase (x := .fn f []) h (by simp) (by simp)
    | cons c r =>
      simp only [lend1] at h
      split at h <;> first | (cases h; done) | skip
      rename_i vs ds' ch' hp
      cases h
      obtain ⟨a1, a2, a3, a4, a5⟩ := lendPL_of (j := j) (k := 0) hp
      exact ⟨a1, .fn f _ _ (by rw [a4]; exact a2) a3⟩
  all_goals exact plainCase h (by simp) (by simp)

theorem lends_cons {x : AV} {r vs : List AV} {ds ch : List Nat} (h : lends mv l (x :: r) = some (vs, ds, ch)) :
    ∃ v d c vs' ds' ch', lend1 mv l x = some (v, d, c) ∧ lends mv l r = some (vs', ds', ch') ∧ vs = v :: vs' ∧ ds = d ++ ds' ∧ ch = c ++ ch' := by
  simp only [lends] at h
  split at h <;> first | (cases h; done) | skip
  rename_i v d c vs' ds' cs' h1 h2
  cases h
  exact ⟨v, d, c, vs', ds', cs', h1, h2, rfl, rfl, rfl⟩

theorem lends_of : ∀ {as vs : List AV} {ds ch : List Nat} {j : Nat}, lends mv l as = some (vs, ds, ch) →
    Lend1 l (pIn mv l j as) (enterL j vs) (rootsIn j vs) (childIn j vs) ds ch ∧ as.length = vs.length ∧ (∀ i (h1 : i < as.length) (h2 : i < vs.length), ArgOf mv l (pIn mv l j as) (childIn j vs) as[i] (slotOf (j + i) vs[i]))
  | [], vs, ds, ch, j, h => by
    simp only [lends, Option.some.injEq, Prod.mk.injEq] at h
    obtain ⟨rfl, rfl, rfl⟩ := h
    exact ⟨.none, rfl, fun i h => by simp at h⟩
  | x :: r, vs, ds, ch, j, h => by
    obtain ⟨v, d, c, vs', ds', ch', h1, h2, rfl, rfl, rfl⟩ := lends_cons h
    obtain ⟨a1, a2⟩ := lend1_of (j := j) h1
    obtain ⟨b1, b2, b3⟩ := lends_of (j := j + 1) h2
    refine ⟨a1.append b1, by simp [b2], fun i p q => ?_⟩
    cases i with
    | zero => exact a2.mono (fun q hq => List.mem_append_left _ hq) (fun q hq => List.mem_append_left _ hq)
    | succ i =>
      have := b3 i (by simpa using p) (by simpa using q)
      rw [show j + 1 + i = j + (i + 1) by omega] at this
      exact this.mono (fun q hq => List.mem_append_right _ hq) (fun q hq => List.mem_append_right _ hq)
/-- Nothing is lent, nothing handed over. -/
theorem lendPL_ch : ∀ {xs vs : List AV} {ch : List Nat}, lendPL l xs = some (vs, [], ch) → ch = []
  | [], vs, ch, h => by simp only [lendPL, Option.some.injEq, Prod.mk.injEq] at h; exact h.2.2.symm
  | x :: r, vs, ch, h => by
    simp only [lendPL] at h
    split at h <;> first | (cases h; done) | skip
    rename_i v d c vs' ds' cs' h1 h2
    simp only [Option.some.injEq, Prod.mk.injEq, List.append_eq_nil_iff] at h
    obtain ⟨_, ⟨rfl, rfl⟩, rfl⟩ := h
    have hc : c = [] := by
      cases x
      case rf d o =>
        cases o with
        | succ n => simp [lendP] at h1
        | zero =>
          simp only [lendP] at h1
          split at h1 <;> first | (cases h1; done) | skip
          cases hr : isRef d <;> simp only [hr, cond_true, cond_false] at h1
          · cases h1
          · split at h1 <;> cases h1
      case rs d o n sz =>
        simp only [lendP] at h1
        split at h1 <;> cases h1
        rfl
      all_goals (simp only [lendP, AV.flat, cond_true, cond_false] at h1; cases h1; try rfl)
    rw [hc, lendPL_ch h2]; rfl

theorem lends_ch : ∀ {xs vs : List AV} {ch : List Nat}, lends mv l xs = some (vs, [], ch) → anyOs vs = false → ch = []
  | [], vs, ch, h, _ => by simp only [lends, Option.some.injEq, Prod.mk.injEq] at h; exact h.2.2.symm
  | x :: r, vs, ch, h, ho => by
    obtain ⟨v, d, c, vs', ds', ch', h1, h2, rfl, hd, rfl⟩ := lends_cons h
    have hd := hd.symm
    simp only [List.append_eq_nil_iff] at hd
    obtain ⟨rfl, rfl⟩ := hd
    have ho' : anyOs vs' = false ∧ ∀ cs n sz, v ≠ .os cs n sz := by
      cases v <;> first | exact ⟨ho, by simp⟩ | cases ho
    have hc : c = [] := by
      cases x
      case rf d o =>
        simp only [lend1] at h1
        have := lendPL_ch (l := l) (xs := [.rf d o]) (vs := [v]) (ch := c) (by simp [lendPL, h1])
        exact this
      case rs d o n sz =>
        simp only [lend1] at h1
        cases hm : memb mv d <;> simp only [hm, cond_true, cond_false] at h1
        · split at h1 <;> cases h1; rfl
        · split at h1 <;> first | (cases h1; done) | skip
          cases hr : isRef d <;> rw [hr] at h1 <;> first | (cases h1; done) | skip
          cases h1
          exact absurd rfl (ho'.2 _ _ _)
      case aq cs =>
        simp only [lend1] at h1
        split at h1 <;> first | (cases h1; done) | skip
        rename_i vs2 ds2 ch2 hp
        simp only [Option.some.injEq, Prod.mk.injEq] at h1
        obtain ⟨_, rfl, rfl⟩ := h1
        exact lendPL_ch hp
      case fn f cs =>
        cases cs with
        | nil => simp only [lend1, toArg] at h1; cases h1; rfl
        | cons c0 cs =>
          simp only [lend1] at h1
          split at h1 <;> first | (cases h1; done) | skip
          rename_i vs2 ds2 ch2 hp
          simp only [Option.some.injEq, Prod.mk.injEq] at h1
          obtain ⟨_, rfl, rfl⟩ := h1
          exact lendPL_ch hp
      all_goals (simp only [lend1, toArg] at h1; cases h1; try rfl)
    rw [hc, lends_ch h2 ho'.1]; rfl

end

theorem get_enterS : ∀ (args : List AV) (j i : Nat), get (enterS j args) i = if j ≤ i then (match args[i - j]? with | some x => slotOf i x | none => .gone) else .gone
  | [], j, i => by simp [enterS, get]
  | x :: r, j, i => by
    have ih := get_enterS r (j + 1) i
    simp only [enterS, get]
    by_cases h : j = i
    · subst h; simp [Nat.beq_refl]
    · have : Nat.beq j i = false := by rw [← Bool.not_eq_true, Nat.beq_eq]; exact h
      simp only [this, cond_false, ih]
      by_cases h2 : j ≤ i
      · have h3 : j + 1 ≤ i := by omega
        rw [if_pos h3, if_pos h2]
        have : i - j = (i - (j + 1)) + 1 := by omega
        rw [this, List.getElem?_cons_succ]
      · rw [if_neg (by omega), if_neg h2]

theorem anyRs0_of : ∀ {as : List AV} {j : Nat} (h : j < as.length) {d o n sz : Nat}, as[j] = .rs d o n sz → anyRs0 as = true
  | x :: r, 0, h, d, o, n, sz, hx => by simp only [List.getElem_cons_zero] at hx; subst hx; rfl
  | x :: r, j + 1, h, d, o, n, sz, hx => by simp only [anyRs0, Bool.or_eq_true]; right; exact anyRs0_of (by simpa using h) (by simpa using hx)
theorem anyRs_get {mv : List Nat} : ∀ {as : List AV} {j : Nat} (h : j < as.length), isRs mv as[j] = true → anyRs mv as = true
  | x :: r, 0, h, hx => by simp only [List.getElem_cons_zero] at hx; simp [anyRs, hx]
  | x :: r, j + 1, h, hx => by simp only [anyRs, Bool.or_eq_true]; right; exact anyRs_get (by simpa using h) (by simpa using hx)
theorem sees0_of {ds : List Nat} : ∀ {as : List AV}, sees0 ds as = false → ∀ {j : Nat} (h : j < as.length) {d o n sz : Nat}, as[j] = .rs d o n sz → d ∉ ds
  | x :: r, hs, 0, h, d, o, n, sz, hx => by
    simp only [List.getElem_cons_zero] at hx; subst hx
    simp only [sees0, Bool.or_eq_false_iff] at hs
    exact fun hm => by rw [← memb_iff] at hm; rw [hs.1] at hm; cases hm
  | x :: r, hs, j + 1, h, d, o, n, sz, hx => by
    have : sees0 ds r = false := by
      cases x <;> first | exact hs | (simp only [sees0, Bool.or_eq_false_iff] at hs; exact hs.2)
    exact sees0_of this (by simpa using h) (by simpa using hx)
theorem seesAny_of {mv ds : List Nat} : ∀ {as : List AV}, seesAny mv ds as = false → ∀ {j : Nat} (h : j < as.length), (∀ {d o n sz : Nat}, as[j] = .rs d o n sz → memb mv d = false → d ∉ ds) ∧ (∀ cs, as[j] = .aq cs → sees0 ds cs = false) ∧ (∀ f cs, as[j] = .fn f cs → sees0 ds cs = false)
  | x :: r, hs, 0, h => by
    refine ⟨fun {d o n sz} hx hv => ?_, fun cs hx => ?_, fun f cs hx => ?_⟩
    · simp only [List.getElem_cons_zero] at hx; subst hx
      simp only [seesAny, Bool.or_eq_false_iff, hv, Bool.not_false, Bool.true_and] at hs
      exact fun hm => by rw [← memb_iff] at hm; rw [hs.1] at hm; cases hm
    · simp only [List.getElem_cons_zero] at hx; subst hx
      simp only [seesAny, Bool.or_eq_false_iff] at hs
      exact hs.1
    · simp only [List.getElem_cons_zero] at hx; subst hx
      simp only [seesAny, Bool.or_eq_false_iff] at hs
      exact hs.1
  | x :: r, hs, j + 1, h => by
    have : seesAny mv ds r = false := by
      cases x <;> first | exact hs | (simp only [seesAny, Bool.or_eq_false_iff] at hs; exact hs.2)
    exact seesAny_of this (by simpa using h)

end Zab

namespace Zab
open Go
set_option linter.unusedSimpArgs false
set_option linter.unusedVariables false

def find : List (Nat × Nat) → Nat → Option Nat
  | [], _ => none
  | (e, d) :: r, i => if e = i then some d else find r i

theorem find_of : ∀ {P : List (Nat × Nat)} {e d : Nat}, (P.map (·.1)).Nodup → (e, d) ∈ P → find P e = some d
  | (e', d') :: r, e, d, hn, h => by
    simp only [List.map_cons, List.nodup_cons] at hn
    simp only [find]
    rcases List.mem_cons.1 h with h | h
    · cases h; simp
    · have : ¬ e' = e := fun he => hn.1 (by rw [he]; exact List.mem_map.2 ⟨_, h, rfl⟩)
      rw [if_neg this]; exact find_of hn.2 h

/-- The callee's names of what it is lent. -/
def calA (A : Nat → Nat) (P : List (Nat × Nat)) (e : Nat) : Nat := match find P e with | some d => A d | none => 0
theorem calA_of {A : Nat → Nat} {P : List (Nat × Nat)} {e d : Nat} (hn : (P.map (·.1)).Nodup) (h : (e, d) ∈ P) : calA A P e = A d := by unfold calA; rw [find_of hn h]

def calM (A K : Nat → Nat) (ds : List Nat) (b : Nat) : Prop := ∃ d, d ∈ ds ∧ 0 < K d ∧ A d = b
def calX (mv : List Nat) (C : Ctx) (A K : Nat → Nat) (l : List (Nat × List AV)) (as : List AV) (ds : List Nat) (b : Nat) : Prop :=
  C.X b ∨ (anyRs mv as = false ∧ ∃ d, Live l K d ∧ d ∉ ds ∧ A d = b)

/-- The callee's context. -/
abbrev calC (mv : List Nat) (C : Ctx) (A K : Nat → Nat) (l : List (Nat × List AV)) (w : World) (as : List AV) (ids : List Nat) (np nt : Nat) : Ctx :=
  ⟨C.E, w, calM A K ids, calX mv C A K l as ids, np, nt, calA A (pIn mv l 0 as), calA K (pIn mv l 0 as), [], fun _ => undef, false⟩

theorem nodup_snd : ∀ {P : List (Nat × Nat)} {e e' d : Nat}, (P.map (·.2)).Nodup → (e, d) ∈ P → (e', d) ∈ P → e = e'
  | (a, b) :: r, e, e', d, hn, h, h' => by
    simp only [List.map_cons, List.nodup_cons] at hn
    rcases List.mem_cons.1 h with h | h <;> rcases List.mem_cons.1 h' with h' | h'
    · cases h; cases h'; rfl
    · cases h; exact absurd (List.mem_map.2 ⟨_, h', rfl⟩) hn.1
    · cases h'; exact absurd (List.mem_map.2 ⟨_, h, rfl⟩) hn.1
    · exact nodup_snd hn.2 h h'
theorem nodup_fst : ∀ {P : List (Nat × Nat)} {e d d' : Nat}, (P.map (·.1)).Nodup → (e, d) ∈ P → (e, d') ∈ P → d = d'
  | (a, b) :: r, e, d, d', hn, h, h' => by
    simp only [List.map_cons, List.nodup_cons] at hn
    rcases List.mem_cons.1 h with h | h <;> rcases List.mem_cons.1 h' with h' | h'
    · cases h; cases h'; rfl
    · cases h; exact absurd (List.mem_map.2 ⟨_, h', rfl⟩) hn.1
    · cases h'; exact absurd (List.mem_map.2 ⟨_, h, rfl⟩) hn.1
    · exact nodup_fst hn.2 h h'

theorem allRoot_of {np : Nat} : ∀ {l : List Nat}, allRoot np l = true → ∀ e ∈ l, rootB np e = true
  | [], _, e, h => by cases h
  | x :: r, h, e, he => by
    simp only [allRoot, Bool.and_eq_true] at h
    rcases List.mem_cons.1 he with rfl | he
    · exact h.1
    · exact allRoot_of h.2 e he
theorem kindsOk_of : ∀ {ds es : List Nat}, kindsOk ds es = true → ds.length = es.length ∧ ∀ p ∈ es.zip ds, isRef p.1 = isRef p.2
  | [], [], _ => ⟨rfl, fun p h => by simp at h⟩
  | [], _ :: _, h => by cases h
  | _ :: _, [], h => by cases h
  | d :: ds, e :: es, h => by
    simp only [kindsOk, Bool.and_eq_true, beq_iff_eq] at h
    obtain ⟨h1, h2⟩ := kindsOk_of h.2
    refine ⟨by simp [h1], fun p hp => ?_⟩
    simp only [List.zip_cons_cons, List.mem_cons] at hp
    rcases hp with rfl | hp
    · exact h.1.symm
    · exact h2 p hp

/-- What is lent, and how. -/
structure Lended (mv : List Nat) (l : List (Nat × List AV)) (as vs : List AV) (ds ch : List Nat) : Prop where
  hl : lends mv l as = some (vs, ds, ch)
  hs : seesAny mv (ds ++ ch) as = false
  hn : (ds ++ ch).Nodup
  he : okEnter ds vs = true

section
variable {mv : List Nat} {l : List (Nat × List AV)} {as vs : List AV} {ds ch : List Nat}

theorem Lended.lend (L : Lended mv l as vs ds ch) : Lend1 l (pIn mv l 0 as) (enterL 0 vs) (rootsIn 0 vs) (childIn 0 vs) ds ch := (lends_of (j := 0) L.hl).1
theorem Lended.len (L : Lended mv l as vs ds ch) : as.length = vs.length := (lends_of (j := 0) L.hl).2.1
theorem Lended.args (L : Lended mv l as vs ds ch) {i : Nat} (h1 : i < as.length) (h2 : i < vs.length) : ArgOf mv l (pIn mv l 0 as) (childIn 0 vs) as[i] (slotOf i vs[i]) := by
  have := (lends_of (j := 0) L.hl).2.2 i h1 h2
  rwa [Nat.zero_add] at this
theorem Lended.ok (L : Lended mv l as vs ds ch) : (keys (enterL 0 vs)).Nodup ∧ (∀ e ∈ rootsIn 0 vs, rootB vs.length e = true) ∧ (∀ e ∈ childIn 0 vs, chB e = true) ∧ (∀ p ∈ (rootsIn 0 vs).zip ds, isRef p.1 = isRef p.2) := by
  have := L.he
  simp only [okEnter, Bool.or_eq_true, Bool.and_eq_true, nodupB_iff, Bool.not_eq_true'] at this
  rcases this with ⟨this, hos⟩ | this
  · have h0 : ds = [] := by simpa using this
    have hc0 : ch = [] := lends_ch (h0 ▸ L.hl) hos
    obtain ⟨h1, h2⟩ := L.lend.nil h0 hc0
    have h3 : rootsIn 0 vs = [] := List.length_eq_zero_iff.1 (by rw [L.lend.len, h0]; rfl)
    rw [h1, h2, h3]
    exact ⟨by simp [keys], fun e h => (by cases h), fun e h => (by cases h), fun p h => (by simp at h)⟩
  · exact ⟨this.1, allRoot_of this.2.1, allCh_of this.2.2.1, (kindsOk_of this.2.2.2).2⟩
theorem Lended.fstN (L : Lended mv l as vs ds ch) : ((pIn mv l 0 as).map (·.1)).Nodup := by rw [L.lend.fst]; exact L.ok.1
theorem Lended.sndN (L : Lended mv l as vs ds ch) : ((pIn mv l 0 as).map (·.2)).Nodup := L.lend.perm.nodup_iff.2 L.hn
theorem Lended.mem (L : Lended mv l as vs ds ch) {e d : Nat} (h : (e, d) ∈ pIn mv l 0 as) : d ∈ ds ++ ch := L.lend.perm.mem_iff.1 (List.mem_map.2 ⟨_, h, rfl⟩)
theorem Lended.of (L : Lended mv l as vs ds ch) {d : Nat} (h : d ∈ ds ++ ch) : ∃ e, (e, d) ∈ pIn mv l 0 as := by
  obtain ⟨⟨e, d'⟩, hp, rfl⟩ := List.mem_map.1 (L.lend.perm.mem_iff.2 h)
  exact ⟨e, hp⟩
theorem Lended.key (L : Lended mv l as vs ds ch) {e d : Nat} (h : (e, d) ∈ pIn mv l 0 as) : ∃ c, look (enterL 0 vs) e = some c := by
  have : e ∈ keys (enterL 0 vs) := by rw [← L.lend.fst]; exact List.mem_map.2 ⟨_, h, rfl⟩
  obtain ⟨c, hc⟩ := keys_mem.1 this
  exact ⟨c, mem_look L.ok.1 hc⟩
theorem Lended.row (L : Lended mv l as vs ds ch) {e : Nat} {c : List AV} (h : look (enterL 0 vs) e = some c) : ∃ d cs, (e, d) ∈ pIn mv l 0 as ∧ look l d = some cs ∧ isRef e = isRef d ∧ (isRef d = false → c = cs) ∧ (isRef d = true → RenL (pIn mv l 0 as) (childIn 0 vs) cs c) := by
  have hm := look_mem h
  obtain ⟨d, cs, h1, h2, h3, h4⟩ := (L.lend.row _ hm).ex
  refine ⟨d, cs, h1, h2, ?_, h3, fun hh => (h4 hh).1⟩
  cases hd : isRef d
  · rcases L.lend.kid e (keys_mem.2 ⟨c, hm⟩) with hr | hk
    · obtain ⟨k, hk, rfl⟩ := List.getElem_of_mem hr
      have hkd : k < ds.length := by rw [← L.lend.len]; exact hk
      have hz : ((rootsIn 0 vs)[k], ds[k]) ∈ (rootsIn 0 vs).zip ds := by
        rw [List.mem_iff_getElem]
        exact ⟨k, by rw [List.length_zip]; omega, by simp⟩
      have := nodup_fst L.fstN h1 (L.lend.zip _ hz)
      rw [this] at hd
      have := L.ok.2.2.2 _ hz
      simp only at this
      rw [this]; exact hd
    · exact ch_flat (L.ok.2.2.1 e hk)
  · exact (h4 hd).2
/-- Each lent row, by the pair. -/
theorem Lended.pair (L : Lended mv l as vs ds ch) {e d : Nat} (h : (e, d) ∈ pIn mv l 0 as) : ∃ c cs, look (enterL 0 vs) e = some c ∧ look l d = some cs ∧ isRef e = isRef d ∧ (isRef d = false → c = cs) ∧ (isRef d = true → RenL (pIn mv l 0 as) (childIn 0 vs) cs c) := by
  obtain ⟨c, hc⟩ := L.key h
  obtain ⟨d', cs, h1, h2, h3, h4, h5⟩ := L.row hc
  have := nodup_fst L.fstN h h1
  subst this
  exact ⟨c, cs, hc, h2, h3, h4, h5⟩
end

section
variable {mv : List Nat} {C : Ctx} {A K : Nat → Nat} {S : St} {a : Act} {w : World}

/-- A view of a row, by value. -/
theorem view_sound (R : Rel C A K S a w) {d off n sz : Nat} {v : AV} (h : viewR S.l d off n sz = some v) {cv : Value} (hv : VRep C.E C.np w (Still C A K S.l w) A K (.rs d off n sz) cv)
    {N' : Nat → Prop} (hS : ∀ b, Still C A K S.l w b → N' b) (hN : Live S.l K d → N' (A d)) : FRep C.E w N' v cv := by
  unfold viewR at h
  cases hr : isRef d
  case true => simp [hr] at h
  rw [hr] at h
  simp only [cond_false] at h
  split at h <;> first | (cases h; done) | skip
  rename_i cs hl
  cases hb : Nat.ble (off + n * sz) cs.length
  · simp [hb] at h
  simp only [hb, cond_true, Option.some.injEq] at h
  subst h
  have hle := Nat.le_of_ble_eq_true hb
  obtain ⟨base, c, rfl, hnp, hn, hk, hb⟩ := vrep_rs hv
  have hrow := (R.row d cs hl).flat hr
  by_cases hk0 : 0 < K d
  · obtain ⟨cc, e, h1, h2, h3⟩ := hrow.list hk0
    have hr := (h3.drop off).take (n * sz)
    have hlen := hrow.le
    refine .sl _ n base c (fun j => cc.getD (off + j) undef) hn (.inr ⟨A d, off, hb hk0, hN ⟨by rw [hl]; simp, hk0⟩, fun j hj => ?_⟩) fun j hj => ?_
    · simp only [List.length_take, List.length_drop] at hj
      rw [cell_of h1]
      simp [show off + j < cc.length by omega]
    · simp only [List.length_take, List.length_drop] at hj
      have hj2 : j < (((cc.take cs.length).drop off).take (n * sz)).length := by simp; omega
      have := (hr.2 j (by simp; omega) hj2).mono hS (fun _ _ => rfl)
      simp only [List.getElem_take, List.getElem_drop] at this ⊢
      simpa [show off + j < cc.length by omega] using this
  · have : cs = [] := List.length_eq_zero_iff.1 (by have := hrow.le; omega)
    subst this
    refine .sl _ n base c (fun _ => undef) hn (.inl (by simp)) fun j hj => by simp at hj

/-- A value under the other names. -/
theorem Ren.sound {P : List (Nat × Nat)} {Cs : List Nat} {np' : Nat} {A' K' : Nat → Nat} {N N' : Nat → Prop} {E : Env} {np : Nat} (hS : ∀ b, N b → N' b) (hP : ∀ e d, (e, d) ∈ P → A' e = A d ∧ K' e = K d) (hC : ∀ e ∈ Cs, rootB np' e = false)
    {x y : AV} (h : Ren P Cs x y) {cv : Value} (hv : V1 E np w N A K x cv) : V1 E np' w N' A' K' y cv := by
  cases h with
  | same _ hx =>
    rcases hx with hx | rfl
    · exact .flat ((hv.ofF hx).mono hS (fun _ _ => rfl))
    · exact .gone _
  | rf d e hp =>
    have := vrep_rf (.one hv)
    subst this
    rw [← (hP e d hp).1]; exact .rf e 0
  | rs d e n sz hp hc =>
    obtain ⟨base, c, rfl, _, hn, hk, hb⟩ := vrep_rs (.one hv)
    obtain ⟨q1, q2⟩ := hP e d hp
    exact .rs e 0 n sz base c (hC e hc) hn (by rw [q2]; exact hk) (by rw [q1, q2]; exact hb)

theorem RenV.sound (R : Rel C A K S a w) {P : List (Nat × Nat)} {Cs : List Nat} {np' : Nat} {A' K' : Nat → Nat} {N' : Nat → Prop} (hS : ∀ b, Still C A K S.l w b → N' b) (hP : ∀ e d, (e, d) ∈ P → A' e = A d ∧ K' e = K d) (hC : ∀ e ∈ Cs, rootB np' e = false)
    {x y : AV} (hN : ∀ d o n sz, x = .rs d o n sz → (∃ v, viewR S.l d o n sz = some v ∧ y = v) → Live S.l K d → N' (A d)) (h : RenV S.l P Cs x y) {cv : Value} (hv : V1 C.E C.np w (Still C A K S.l w) A K x cv) : V1 C.E np' w N' A' K' y cv := by
  cases h with
  | cell _ _ h => exact h.sound hS hP hC hv
  | view d off n sz v h => exact .flat (view_sound R h (.one hv) hS fun hl => hN d off n sz rfl ⟨y, h, rfl⟩ hl)

theorem arg_sound (R : Rel C A K S a w) {x v : AV} {cv : Value} (hv : VRep C.E C.np w (Still C A K S.l w) A K x cv) (h : toArg S.l x = some v) (hn : ∀ cs, x ≠ .aq cs)
    {N' : Nat → Prop} (hS : ∀ b, Still C A K S.l w b → N' b) (hN : ∀ d o n sz, x = .rs d o n sz → Live S.l K d → N' (A d)) (np' : Nat) (A' K' : Nat → Nat) :
    V1 C.E np' w N' A' K' v cv := by
  have flat : ∀ {y : AV}, VRep C.E C.np w (Still C A K S.l w) A K y cv → y.flat = true → V1 C.E np' w N' A' K' y cv := fun {y} hy hf => .flat ((vrep_flat hy hf).mono hS (fun _ _ => rfl))
  cases x
  case rs d off n sz =>
    simp only [toArg] at h
    exact .flat (view_sound R h hv hS fun hl => hN d off n sz rfl hl)
  case aq cs => exact absurd rfl (hn cs)
  case ag cs =>
    simp only [toArg, Option.some.injEq] at h
    subst h
    obtain ⟨l, rfl, hr⟩ := vrep_agL hv
    exact .ag cs l hr.1 (hr.mono hS (fun _ _ => rfl)).2
  case el cs o =>
    simp only [toArg, Option.some.injEq] at h
    subst h
    obtain ⟨blk, off, f, rfl, hN0, hc, h1⟩ := vrep_el hv
    exact .el cs o blk off f (hS _ hN0) hc (fun j hj => (h1 j hj).mono hS (fun _ _ => rfl))
  case fn f l =>
    cases l with
    | nil =>
      simp only [toArg, Option.some.injEq] at h
      subst h
      obtain ⟨vs, rfl, hl, _⟩ := vrep_fn hv
      have : vs = [] := by cases vs <;> simp_all
      subst this
      exact .fn f
    | cons c l => simp [toArg] at h
  all_goals (simp only [toArg] at h; first | (cases h; done) | (simp only [Option.some.injEq] at h; subst h; exact flat hv rfl))

theorem enter_rel (R : Rel C A K S a w) {as vs : List AV} {ds ch : List Nat} {cvals : List Value} (hlen : as.length = cvals.length) (hvals : ∀ j (h1 : j < as.length) (h2 : j < cvals.length), VRep C.E C.np w (Still C A K S.l w) A K as[j] cvals[j])
    (L : Lended mv S.l as vs ds ch) (hsm : vs.length ≤ 1000000) :
    Rel (calC mv C A K S.l w as (ds ++ ch) vs.length cvals.toArray.size) (calA A (pIn mv S.l 0 as)) (calA K (pIn mv S.l 0 as)) ⟨enterS 0 vs, enterL 0 vs⟩ ⟨cvals.toArray, []⟩ w := by
  have hP : ∀ e d, (e, d) ∈ pIn mv S.l 0 as → calA A (pIn mv S.l 0 as) e = A d ∧ calA K (pIn mv S.l 0 as) e = K d := fun e d h => ⟨calA_of L.fstN h, calA_of L.fstN h⟩
  have hC : ∀ e ∈ childIn 0 vs, rootB vs.length e = false := fun e he => ch_own hsm (L.ok.2.2.1 e he)
  have liveL : ∀ e, Live (enterL 0 vs) (calA K (pIn mv S.l 0 as)) e → ∃ d, (e, d) ∈ pIn mv S.l 0 as ∧ Live S.l K d := by
    intro e he
    obtain ⟨c, hc⟩ := Option.ne_none_iff_exists'.1 he.1
    obtain ⟨d, cs, h1, h2, _⟩ := L.row hc
    exact ⟨d, h1, by rw [h2]; simp, by rw [← (hP e d h1).2]; exact he.2⟩
  -- what stays still
  have still : ∀ b, Still C A K S.l w b → Still (calC mv C A K S.l w as (ds ++ ch) vs.length cvals.toArray.size) (calA A (pIn mv S.l 0 as)) (calA K (pIn mv S.l 0 as)) (enterL 0 vs) w b := by
    intro b hb
    refine ⟨hb.1, ?_, fun e he => ?_⟩
    · rintro (hx | ⟨_, d, hd, _, he⟩)
      · exact hb.2.1 hx
      · exact hb.2.2 d hd he
    · obtain ⟨d, h1, h2⟩ := liveL e he
      rw [(hP e d h1).1]; exact hb.2.2 d h2
  have seen : ∀ d, anyRs mv as = true → d ∉ ds ++ ch → Live S.l K d → Still (calC mv C A K S.l w as (ds ++ ch) vs.length cvals.toArray.size) (calA A (pIn mv S.l 0 as)) (calA K (pIn mv S.l 0 as)) (enterL 0 vs) w (A d) := by
    intro d hany hnot hd
    refine ⟨Live.lt R hd, ?_, fun e he => ?_⟩
    · rintro (hx' | ⟨hf, _⟩)
      · exact (R.own d hd).2.1 hx'
      · rw [hany] at hf; cases hf
    · obtain ⟨d', h1, h2⟩ := liveL e he
      rw [(hP e d' h1).1]
      intro hh
      have := R.inj d' d h2 hd hh
      subst this; exact hnot (L.mem h1)
  constructor
  case slot =>
    intro i
    show VRep C.E vs.length w _ _ _ (get (enterS 0 vs) i) (cvals.toArray.getD i undef)
    rw [get_enterS, if_pos (Nat.zero_le _), Nat.sub_zero]
    cases hv : vs[i]? with
    | none => exact .one (.gone _)
    | some v =>
      obtain ⟨hi, rfl⟩ := List.getElem?_eq_some_iff.1 hv
      have hi' : i < as.length := by rw [L.len]; exact hi
      have hic : i < cvals.length := by rw [← hlen]; exact hi'
      have hcv : cvals.toArray.getD i undef = cvals[i] := by simp [hic]
      have hval := hvals i hi' hic
      have harg := L.args hi' hi
      obtain ⟨s1, s2, s3⟩ := seesAny_of L.hs hi'
      have hA1 : isRs mv as[i] = true → anyRs mv as = true := anyRs_get hi'
      rw [hcv]
      generalize hx : as[i] = x at harg hval s1 s2 s3 hA1
      show VRep C.E vs.length w _ _ _ (slotOf i vs[i]) cvals[i]
      generalize slotOf i vs[i] = y at harg
      have seen1 : ∀ (cs : List AV), (∀ {d o n sz : Nat}, ∀ j (h : j < cs.length), cs[j] = .rs d o n sz → d ∉ ds ++ ch ∧ anyRs mv as = true) → ∀ j (h : j < cs.length) {y : AV} {u : Value}, RenV S.l (pIn mv S.l 0 as) (childIn 0 vs) cs[j] y → V1 C.E C.np w (Still C A K S.l w) A K cs[j] u →
          V1 C.E vs.length w (Still (calC mv C A K S.l w as (ds ++ ch) vs.length cvals.toArray.size) (calA A (pIn mv S.l 0 as)) (calA K (pIn mv S.l 0 as)) (enterL 0 vs) w) (calA A (pIn mv S.l 0 as)) (calA K (pIn mv S.l 0 as)) y u := by
        intro cs hcs j h y u hr hu
        exact hr.sound R still hP hC (fun d o n sz e _ hl => by obtain ⟨q1, q2⟩ := hcs j h e; exact seen d q2 q1 hl) hu
      cases harg with
      | one _ _ h =>
        have hpl : V1 C.E C.np w (Still C A K S.l w) A K x cvals[i] := by
          cases h with
          | same _ hx' =>
            rcases hx' with hx' | rfl
            · exact .flat (vrep_flat hval hx')
            · exact .gone _
          | rf d e hp => cases hval with | one h => exact h
          | rs d e n sz hp hc => cases hval with | one h => exact h
        exact .one (h.sound still hP hC hpl)
      | val x' v' h hn hm =>
        exact .one (arg_sound R hval h hn still (fun d o n sz e hl => by
          subst e
          have hmd := hm d o n sz rfl
          exact seen d (hA1 (by simp [isRs, hmd])) (s1 rfl hmd) hl) _ _ _)
      | ag xs us hl h hf =>
        obtain ⟨l, hv', h2, h3, h4⟩ := vrep_aq hval
        rw [hv']
        have hcs : ∀ {d o n sz : Nat}, ∀ j (h : j < xs.length), xs[j] = .rs d o n sz → d ∉ ds ++ ch ∧ anyRs mv as = true := fun j h e => ⟨sees0_of (s2 xs rfl) h e, hA1 (anyRs0_of h e)⟩
        exact .one (.ag us l (by omega) fun j p q => (seen1 xs hcs j (by omega) (h j (by omega) p) (h4 j (by omega) q)).ofF (hf _ (List.getElem_mem p)))
      | aq xs ys hl h =>
        obtain ⟨l, hv', h2, h3, h4⟩ := vrep_aq hval
        rw [hv']
        have hcs : ∀ {d o n sz : Nat}, ∀ j (h : j < xs.length), xs[j] = .rs d o n sz → d ∉ ds ++ ch ∧ anyRs mv as = true := fun j h e => ⟨sees0_of (s2 xs rfl) h e, hA1 (anyRs0_of h e)⟩
        exact .aq ys l (by omega) h3 fun j p q => seen1 xs hcs j (by omega) (h j (by omega) p) (h4 j (by omega) q)
      | fn f xs ys hl h =>
        obtain ⟨l, hv', h2, h4⟩ := vrep_fn hval
        rw [hv']
        refine .fn f ys l (by omega) fun j p q => ?_
        have hcs : ∀ {d o n sz : Nat}, ∀ j (h : j < xs.length), xs[j] = .rs d o n sz → d ∉ ds ++ ch ∧ anyRs mv as = true := fun j h e => ⟨sees0_of (s3 f xs rfl) h e, hA1 (anyRs0_of h e)⟩
        exact seen1 xs hcs j (by omega) (h j (by omega) p) (h4 j (by omega) q)
  case row =>
    intro e c hc
    obtain ⟨d, cs, h1, h2, h3, h4, h5⟩ := L.row hc
    obtain ⟨q1, q2⟩ := hP e d h1
    rw [q1, q2]
    have hr := R.row d cs h2
    refine ⟨fun hf => ?_, fun hf => ?_⟩
    · rw [h3] at hf
      rw [h4 hf]
      exact (hr.flat hf).mono still (fun _ _ => rfl) (fun _ => rfl)
    · rw [h3] at hf
      obtain ⟨r1, r2⟩ := h5 hf
      refine ⟨by rw [← r1]; exact (hr.ref hf).le, fun hk => ?_⟩
      obtain ⟨cc, t, p1, p2, p3⟩ := (hr.ref hf).row hk
      refine ⟨cc, t, p1, p2, fun j hj => ?_⟩
      obtain ⟨v, p4, p5, p6, p7⟩ := p3 j (by rw [r1]; exact hj)
      refine ⟨v, p4, p5, ?_, (r2 j (by rw [r1]; exact hj) hj).sound still hP hC p7⟩
      have := r2 j (by rw [r1]; exact hj) hj
      generalize c[j] = y at this
      generalize cs[j]'(by rw [r1]; exact hj) = x at this
      cases this with
      | same _ hx => rcases hx with hx | rfl
                     · exact flat_cellQ hx
                     · rfl
      | rf => rfl
      | rs => rfl
  case inj =>
    intro e f he hf h
    obtain ⟨d, h1, h2⟩ := liveL e he
    obtain ⟨d', h1', h2'⟩ := liveL f hf
    rw [(hP e d h1).1, (hP f d' h1').1] at h
    have := R.inj d d' h2 h2' h
    subst this
    exact nodup_snd L.sndN h1 h1'
  case own =>
    intro e he
    obtain ⟨d, h1, h2⟩ := liveL e he
    rw [(hP e d h1).1]
    refine ⟨.inr ⟨d, L.mem h1, h2.2, rfl⟩, ?_, (R.own d h2).2.2⟩
    rintro (hx | ⟨_, e', he', hne, hh⟩)
    · exact (R.own d h2).2.1 hx
    · have := R.inj e' d he' h2 hh
      subst this; exact hne (L.mem h1)
  case arg => exact fun _ _ _ => ⟨rfl, rfl⟩
  case glob => exact R.glob
  case frame => exact fun _ _ _ => rfl
  case size => exact Nat.le_refl _
  case os => rfl
  case tape => rfl
  case output => rfl
  case act => exact ⟨fun d h => by simp at h, List.nodup_nil, rfl, fun i h => by simp at h, fun _ => rfl⟩
  case xlt =>
    rintro b (hx | ⟨_, d, hd, _, rfl⟩)
    · exact Nat.lt_of_lt_of_le (R.xlt b hx) R.size
    · exact Live.lt R hd
  case npl => exact hsm

end
end Zab

namespace Zab
open Go
set_option linter.unusedSimpArgs false
set_option linter.unusedVariables false

theorem hasSlL_of : ∀ {cs : List AV}, hasSlL cs = false → ∀ j (h : j < cs.length), hasSl1 cs[j] = false
  | [], _, j, h => by simp at h
  | x :: r, h, j, hj => by
    simp only [hasSlL, Bool.or_eq_false_iff] at h
    cases j with
    | zero => exact h.1
    | succ j => exact hasSlL_of h.2 j (by simpa using hj)
theorem hasSlCL_of : ∀ {cs : List AV}, hasSlCL cs = false → ∀ j (h : j < cs.length), hasSlC cs[j] = false
  | [], _, j, h => by simp at h
  | x :: r, h, j, hj => by
    simp only [hasSlCL, Bool.or_eq_false_iff] at h
    cases j with
    | zero => exact h.1
    | succ j => exact hasSlCL_of h.2 j (by simpa using hj)
theorem hasSlLL_of : ∀ {ll : List (List AV)}, hasSlLL ll = false → ∀ cs ∈ ll, hasSlCL cs = false
  | [], _, _, h => by cases h
  | x :: r, h, cs, hm => by
    simp only [hasSlLL, Bool.or_eq_false_iff] at h
    rcases List.mem_cons.1 hm with rfl | hm
    · exact h.1
    · exact hasSlLL_of h.2 cs hm
theorem hasSlC_flat {x : AV} (h : hasSlC x = false) (hf : x.flat = true) : hasSl1 x = false := by
  cases x <;> first | exact h | cases hf

def delAll (l : List (Nat × List AV)) : List Nat → List (Nat × List AV)
  | [] => l
  | d :: r => delAll (del l d) r
theorem look_delAll : ∀ (ds : List Nat) (l : List (Nat × List AV)) (e : Nat), look (delAll l ds) e = if e ∈ ds then none else look l e
  | [], l, e => by simp [delAll]
  | d :: r, l, e => by
    rw [delAll, look_delAll r, look_del]
    by_cases h1 : e ∈ r
    · simp [h1]
    · by_cases h2 : e = d <;> simp [h1, h2]

section
variable {mv : List Nat} {C : Ctx} {A K : Nat → Nat} {S : St} {a : Act} {w : World}

/-- A call that has come to its end. -/
structure Back (mv : List Nat) (C : Ctx) (A K : Nat → Nat) (S : St) (a : Act) (w : World) (as vs : List AV) (ds ch : List Nat) (nt : Nat) (A' K' : Nat → Nat) (S' : St) (a' : Act) (w' : World) : Prop where
  R : Rel C A K S a w
  L : Lended mv S.l as vs ds ch
  R' : Rel (calC mv C A K S.l w as (ds ++ ch) vs.length nt) A' K' S' a' w'

variable {as vs : List AV} {ds ch : List Nat} {nt : Nat} {A' K' : Nat → Nat} {S' : St} {a' : Act} {w' : World}

/-- The state without what was lent. -/
def St.without (S : St) (ids : List Nat) : St := { s := S.s, l := delAll S.l ids }

theorem Back.dsLive (B : Back mv C A K S a w as vs ds ch nt A' K' S' a' w') {d : Nat} (hd : d ∈ ds ++ ch) (hk : 0 < K d) : Live S.l K d := by
  obtain ⟨e, he⟩ := B.L.of hd
  obtain ⟨c, cs, _, h, _⟩ := B.L.pair he
  exact ⟨by rw [h]; simp, hk⟩

theorem Back.live0 {d : Nat} {ids : List Nat} : Live (S.without ids).l K d ↔ d ∉ ids ∧ Live S.l K d := by
  unfold Live St.without
  simp only [look_delAll]
  by_cases h : d ∈ ids <;> simp [h]

theorem Back.same (B : Back mv C A K S a w as vs ds ch nt A' K' S' a' w') {b : Nat} (hb : b < w.heap.size) (hn : ∀ d, d ∈ ds ++ ch → 0 < K d → A d ≠ b) : w'.heap[b]? = w.heap[b]? :=
  B.R'.frame b hb fun ⟨d, h1, h2, h3⟩ => hn d h1 h2 h3

theorem Back.still (B : Back mv C A K S a w as vs ds ch nt A' K' S' a' w') {b : Nat} (hb : Still C A K S.l w b) : Still C A K (S.without (ds ++ ch)).l w' b ∧ w'.heap[b]? = w.heap[b]? :=
  ⟨⟨Nat.lt_of_lt_of_le hb.1 B.R'.size, hb.2.1, fun d hd => hb.2.2 d (Back.live0.1 hd).2⟩, B.same hb.1 fun d hd hk => hb.2.2 d (B.dsLive hd hk)⟩

/-- What the callee leaves alone at its end, the caller may see. -/
theorem Back.theirs (B : Back mv C A K S a w as vs ds ch nt A' K' S' a' w') (hany : anyRs mv as = false) {b : Nat} (hb : Still (calC mv C A K S.l w as (ds ++ ch) vs.length nt) A' K' S'.l w' b) : Still C A K (S.without (ds ++ ch)).l w' b := by
  refine ⟨hb.1, fun hx => hb.2.1 (.inl hx), fun d hd he => ?_⟩
  obtain ⟨h1, h2⟩ := Back.live0.1 hd
  exact hb.2.1 (.inr ⟨hany, d, h2, h1, he⟩)

/-- A row of the callee's: what its block is to the caller. -/
theorem Back.block (B : Back mv C A K S a w as vs ds ch nt A' K' S' a' w') {x : Nat} (hx : Live S'.l K' x) :
    ((C.w0.heap.size ≤ A' x ∨ C.M (A' x)) ∧ ¬ C.X (A' x) ∧ ¬ C.E.fixed (A' x)) ∧ (∀ b, Still C A K S.l w b → b ≠ A' x) ∧ (∀ e, Live (S.without (ds ++ ch)).l K e → A e ≠ A' x) ∧ A' x < w'.heap.size := by
  obtain ⟨o1, o2, o3⟩ := B.R'.own x hx
  have hlt := Live.lt B.R' hx
  refine ⟨⟨?_, fun h => o2 (.inl h), o3⟩, fun b hb e => ?_, fun e he h => ?_, hlt⟩
  · rcases o1 with h | ⟨d, h1, h2, h3⟩
    · exact .inl (Nat.le_trans B.R.size h)
    · rw [← h3]; exact (B.R.own d (B.dsLive h1 h2)).1
  · subst e
    rcases o1 with h | ⟨d, h1, h2, h3⟩
    · have := hb.1; have h : w.heap.size ≤ A' x := h; omega
    · exact hb.2.2 d (B.dsLive h1 h2) h3
  · obtain ⟨q1, q2⟩ := Back.live0.1 he
    rcases o1 with h' | ⟨d, h1, h2, h3⟩
    · have := Live.lt B.R q2; have h' : w.heap.size ≤ A' x := h'; omega
    · have := B.R.inj d e (B.dsLive h1 h2) q2 (h3.trans h.symm)
      subst this; exact q1 h1

/-- What values are told through, behind the call: F are rows of the callee's that nobody writes any more. -/
def backN (mv : List Nat) (C : Ctx) (A K : Nat → Nat) (l : List (Nat × List AV)) (w : World) (as : List AV) (ids : List Nat) (np nt : Nat) (A' K' : Nat → Nat) (lc : List (Nat × List AV)) (w' : World) (F : List Nat) (b : Nat) : Prop :=
  Still C A K l w b ∨ (anyRs mv as = false ∧ Still (calC mv C A K l w as ids np nt) A' K' lc w' b) ∨ ∃ x ∈ F, Live lc K' x ∧ A' x = b

abbrev Back.N (B : Back mv C A K S a w as vs ds ch nt A' K' S' a' w') (F : List Nat) : Nat → Prop := backN mv C A K S.l w as (ds ++ ch) vs.length nt A' K' S'.l w' F

theorem Back.blockN (B : Back mv C A K S a w as vs ds ch nt A' K' S' a' w') {F : List Nat} {x : Nat} (hx : Live S'.l K' x) (hF : x ∉ F) : ∀ b, B.N F b → b ≠ A' x := by
  rintro b (hb | ⟨_, hb⟩ | ⟨y, hy, hly, rfl⟩)
  · exact (B.block hx).2.1 b hb
  · exact fun e => hb.2.2 x hx e.symm
  · exact fun e => hF (B.R'.inj y x hly hx e ▸ hy)

theorem Back.base (B : Back mv C A K S a w as vs ds ch nt A' K' S' a' w') (F : List Nat) : RelN C A K (S.without (ds ++ ch)) a w' (B.N F) where
  slot := fun i => (B.R.slot i).mono (fun b hb => .inl hb) (fun b hb => (B.still hb).2) (fun _ _ => ⟨rfl, rfl⟩)
  row := fun d cs h => by
    simp only [St.without, look_delAll] at h
    by_cases hd : d ∈ ds ++ ch
    · rw [if_pos hd] at h; cases h
    · rw [if_neg hd] at h
      exact (B.R.row d cs h).mono (fun b hb => .inl hb) (fun b hb => (B.still hb).2) (fun hk => by
        have hlive : Live S.l K d := ⟨by rw [h]; simp, hk⟩
        exact B.same (Live.lt B.R hlive) fun e he hke hh => by
          have := B.R.inj e d (B.dsLive he hke) hlive hh
          subst this; exact hd he) (fun _ _ => ⟨rfl, rfl⟩)
  sub := by
    rintro b (hb | ⟨hany, hb⟩ | ⟨y, hy, hly, rfl⟩)
    · exact (B.still hb).1
    · exact B.theirs hany hb
    · obtain ⟨⟨_, h2, _⟩, _, h4, h5⟩ := B.block hly
      exact ⟨h5, h2, fun e he => h4 e he⟩
  inj := fun d e hd he h => B.R.inj d e (Back.live0.1 hd).2 (Back.live0.1 he).2 h
  own := fun d hd => B.R.own d (Back.live0.1 hd).2
  arg := fun d hd h => B.R.arg d hd fun h' => h (by simp only [St.without, look_delAll, h']; simp)
  glob := B.R'.glob
  frame := fun b hb hm => by
    rw [B.same (Nat.lt_of_lt_of_le hb B.R.size) fun d hd hk e => by
      rcases (B.R.own d (B.dsLive hd hk)).1 with h | h
      · omega
      · rw [e] at h; exact hm h]
    exact B.R.frame b hb hm
  size := Nat.le_trans B.R.size B.R'.size
  os := B.R'.os.trans B.R.os
  tape := B.R'.tape.trans B.R.tape
  output := B.R'.output.trans B.R.output
  act := B.R.act.mono fun D h1 h2 => (B.still (B.R.markStill h1 h2)).2
  xlt := B.R.xlt
  npl := B.R.npl

/-- Where live rows lie: as before the call, or where a row of the callee's lay. -/
def Sep (A K : Nat → Nat) (l0 : List (Nat × List AV)) (A' K' : Nat → Nat) (lc : List (Nat × List AV)) (U : Nat → Prop) (A1 K1 : Nat → Nat) (l1 : List (Nat × List AV)) : Prop :=
  ∀ e, Live l1 K1 e → (Live l0 K e ∧ A1 e = A e) ∨ ∃ x, U x ∧ Live lc K' x ∧ A1 e = A' x

/-- A row that the callee hands over. -/
structure Hand (K' : Nat → Nat) (lc : List (Nat × List AV)) (F : List Nat) (U : Nat → Prop) (x : Nat) : Prop where
  live : 0 < K' x → Live lc K' x
  fresh : x ∉ F
  used : ¬ U x

theorem Back.add (B : Back mv C A K S a w as vs ds ch nt A' K' S' a' w') {F : List Nat} {U : Nat → Prop} {A1 K1 : Nat → Nat} {S1 : St} (R1 : RelN C A1 K1 S1 a w' (B.N F)) (hs : Sep A K (S.without (ds ++ ch)).l A' K' S'.l U A1 K1 S1.l)
    {D x : Nat} {cs : List AV} (hF : Free S1 D) (hD : rootB C.np D = false) (hx : Hand K' S'.l F U x) (hrow : RowX C.E C.np w' (B.N F) (upd A1 D (A' x)) (upd K1 D (K' x)) D (A' x) (K' x) cs) :
    RelN C (upd A1 D (A' x)) (upd K1 D (K' x)) { S1 with l := put S1.l D cs } a w' (B.N F) ∧ Sep A K (S.without (ds ++ ch)).l A' K' S'.l (fun y => U y ∨ y = x) (upd A1 D (A' x)) (upd K1 D (K' x)) (put S1.l D cs) := by
  refine ⟨R1.add hF hD (fun hk => (B.block (hx.live hk)).1) (fun hk => B.blockN (hx.live hk) hx.fresh) (fun hk e _ he h => ?_) hrow, fun e he => ?_⟩
  · rcases hs e he with ⟨h1, h2⟩ | ⟨y, h1, h2, h3⟩
    · rw [h2] at h; exact (B.block (hx.live hk)).2.2.1 e h1 h
    · rw [h3] at h
      have := B.R'.inj y x h2 (hx.live hk) h
      subst this; exact hx.used h1
  · rcases live_add.1 he with ⟨rfl, hk⟩ | ⟨hne, hl⟩
    · exact .inr ⟨x, .inr rfl, hx.live hk, by rw [upd_same]⟩
    · rw [upd_other _ _ _ hne]
      rcases hs e hl with h | ⟨y, h1, h2, h3⟩
      · exact .inl h
      · exact .inr ⟨y, .inl h1, h2, h3⟩

/-- Rows that are told flatly. -/
theorem Back.adds (B : Back mv C A K S a w as vs ds ch nt A' K' S' a' w') {F : List Nat} {T : List (Nat × Nat)} (hT1 : (T.map (·.1)).Nodup) (hT2 : (T.map (·.2)).Nodup) :
    ∀ (rows : List (Nat × List AV)) {U : Nat → Prop} {A1 K1 : Nat → Nat} {S1 : St}, RelN C A1 K1 S1 a w' (B.N F) → Sep A K (S.without (ds ++ ch)).l A' K' S'.l U A1 K1 S1.l →
    (∀ p ∈ rows, Free S1 p.1 ∧ chB p.1 = true ∨ Free S1 p.1 ∧ rootB C.np p.1 = false ∧ isRef p.1 = false) → (keys rows).Nodup →
    (∀ p ∈ rows, ∃ x, (p.1, x) ∈ T ∧ Hand K' S'.l F U x ∧ Row C.E w' (B.N F) (A' x) (K' x) p.2) →
    ∃ A2 K2, RelN C A2 K2 { S1 with l := putRows S1.l rows } a w' (B.N F) ∧ Sep A K (S.without (ds ++ ch)).l A' K' S'.l (fun y => U y ∨ ∃ D ∈ keys rows, (D, y) ∈ T) A2 K2 (putRows S1.l rows) ∧
      (∀ e, e ∉ keys rows → A2 e = A1 e ∧ K2 e = K1 e) ∧ (∀ D ∈ keys rows, ∀ x, (D, x) ∈ T → A2 D = A' x ∧ K2 D = K' x) ∧ (∀ e, e ∉ keys rows → Free S1 e → Free { S1 with l := putRows S1.l rows } e)
  | [], U, A1, K1, S1, R1, hs, _, _, _ => ⟨A1, K1, R1, fun e he => (hs e he).imp id (fun ⟨y, h1, h2⟩ => ⟨y, .inl h1, h2⟩), fun _ _ => ⟨rfl, rfl⟩, fun D h => by simp [keys] at h, fun _ _ h => h⟩
  | (D, cs) :: r, U, A1, K1, S1, R1, hs, hf, hn, hr => by
    simp only [keys, List.nodup_cons] at hn
    have h1 : Free S1 D ∧ rootB C.np D = false ∧ isRef D = false := by
      rcases hf (D, cs) (by simp) with ⟨h1, h2⟩ | h
      · exact ⟨h1, ch_own B.R.npl h2, ch_flat h2⟩
      · exact h
    obtain ⟨x, hx1, hx2, hx3⟩ := hr (D, cs) (by simp)
    obtain ⟨R2, s2⟩ := B.add R1 hs (D := D) (x := x) (cs := cs) h1.1 h1.2.1 hx2 ⟨fun _ => hx3, fun h => by rw [h1.2.2] at h; cases h⟩
    have hne : ∀ p ∈ r, p.1 ≠ D := fun p hp e => hn.1 (by rw [← e]; exact keys_mem.2 ⟨p.2, hp⟩)
    have hno : ∀ e, ¬ namesR D cs e := fun e hh => by obtain ⟨hh1, _⟩ := hh; rw [h1.2.2] at hh1; cases hh1
    obtain ⟨A2, K2, R3, s3, q1, q2, q3⟩ := B.adds hT1 hT2 r R2 s2 (fun p hp => by
      rcases hf p (by simp [hp]) with ⟨g1, g2⟩ | ⟨g1, g2⟩
      · exact .inl ⟨g1.put (hne p hp) (hno _), g2⟩
      · exact .inr ⟨g1.put (hne p hp) (hno _), g2⟩) hn.2 (fun p hp => by
      obtain ⟨y, y1, y2, y3⟩ := hr p (by simp [hp])
      refine ⟨y, y1, ⟨y2.live, y2.fresh, ?_⟩, y3⟩
      rintro (h | rfl)
      · exact y2.used h
      · exact hne p hp (nodup_snd hT2 y1 hx1))
    refine ⟨A2, K2, R3, fun e he => ?_, fun e he => ?_, fun D' hD' x' hx' => ?_, fun e he hF => ?_⟩
    · rcases s3 e he with h | ⟨y, (h | rfl) | ⟨D', h, h'⟩, h2⟩
      · exact .inl h
      · exact .inr ⟨y, .inl h, h2⟩
      · exact .inr ⟨y, .inr ⟨D, by simp [keys], hx1⟩, h2⟩
      · exact .inr ⟨y, .inr ⟨D', by simp [keys, h], h'⟩, h2⟩
    · simp only [keys, List.mem_cons, not_or] at he
      obtain ⟨p1, p2⟩ := q1 e he.2
      exact ⟨by rw [p1, upd_other _ _ _ he.1], by rw [p2, upd_other _ _ _ he.1]⟩
    · simp only [keys, List.mem_cons] at hD'
      by_cases hr' : D' ∈ keys r
      · exact q2 D' hr' x' hx'
      · rcases hD' with rfl | h
        · have := nodup_fst hT1 hx1 hx'
          subst this
          obtain ⟨p1, p2⟩ := q1 D' hr'
          exact ⟨by rw [p1, upd_same], by rw [p2, upd_same]⟩
        · exact absurd h hr'
    · simp only [keys, List.mem_cons, not_or] at he
      exact q3 e he.2 (hF.put he.1 (hno _))

/-- Rows that come back to their blocks. -/
theorem Back.roots (B : Back mv C A K S a w as vs ds ch nt A' K' S' a' w') {F : List Nat} :
    ∀ (rows : List (Nat × List AV)) {U : Nat → Prop} {A1 K1 : Nat → Nat} {S1 : St}, RelN C A1 K1 S1 a w' (B.N F) → Sep A K (S.without (ds ++ ch)).l A' K' S'.l U A1 K1 S1.l → (keys rows).Nodup →
    (∀ p ∈ rows, (rootB C.np p.1 = true → A1 p.1 = C.A0 p.1 ∧ K1 p.1 = C.K0 p.1) ∧ ∃ x, (x, p.1) ∈ pIn mv S.l 0 as ∧ Hand K' S'.l F U x ∧ A1 p.1 = A' x ∧ K1 p.1 = K' x ∧ RowX C.E C.np w' (B.N F) A1 K1 p.1 (A1 p.1) (K1 p.1) p.2) →
    RelN C A1 K1 { S1 with l := putRows S1.l rows } a w' (B.N F) ∧ Sep A K (S.without (ds ++ ch)).l A' K' S'.l (fun y => U y ∨ ∃ D ∈ keys rows, (y, D) ∈ pIn mv S.l 0 as) A1 K1 (putRows S1.l rows)
  | [], U, A1, K1, S1, R1, hs, _, _ => ⟨R1, fun e he => (hs e he).imp id (fun ⟨y, h1, h2⟩ => ⟨y, .inl h1, h2⟩)⟩
  | (D, cs) :: r, U, A1, K1, S1, R1, hs, hn, hr => by
    simp only [keys, List.nodup_cons] at hn
    obtain ⟨ha, x, hx1, hx2, hx3, hx4, hx5⟩ := hr (D, cs) (by simp)
    simp only at ha hx1 hx3 hx4 hx5
    have R2 := R1.back (d := D) (cs := cs) ha (fun hk => by rw [hx3]; exact (B.block (hx2.live (hx4 ▸ hk))).1) (fun hk => by rw [hx3]; exact B.blockN (hx2.live (hx4 ▸ hk)) hx2.fresh) (fun hk e hne he h => by
      rcases hs e he with ⟨h1, h2⟩ | ⟨y, h1, h2, h3⟩
      · rw [h2, hx3] at h; exact (B.block (hx2.live (hx4 ▸ hk))).2.2.1 e h1 h
      · rw [h3, hx3] at h
        have := B.R'.inj y x h2 (hx2.live (hx4 ▸ hk)) h
        subst this; exact hx2.used h1) hx5
    have s2 : Sep A K (S.without (ds ++ ch)).l A' K' S'.l (fun y => U y ∨ y = x) A1 K1 (put S1.l D cs) := fun e he => by
      have := (live_add (K := K1) (l := S1.l) (d := D) (k := K1 D) (cs := cs) (e := e)).1 (by rw [upd_self]; exact he)
      rcases this with ⟨rfl, hk⟩ | ⟨hne, hl⟩
      · exact .inr ⟨x, .inr rfl, hx2.live (hx4 ▸ hk), hx3⟩
      · rcases hs e hl with h | ⟨y, h1, h2, h3⟩
        · exact .inl h
        · exact .inr ⟨y, .inl h1, h2, h3⟩
    have hne : ∀ p ∈ r, p.1 ≠ D := fun p hp e => hn.1 (by rw [← e]; exact keys_mem.2 ⟨p.2, hp⟩)
    obtain ⟨R3, s3⟩ := B.roots r R2 s2 hn.2 (fun p hp => by
      obtain ⟨g1, y, y1, y2, y3, y4, y5⟩ := hr p (by simp [hp])
      refine ⟨g1, y, y1, ⟨y2.live, y2.fresh, ?_⟩, y3, y4, y5⟩
      rintro (h | rfl)
      · exact y2.used h
      · exact hne p hp (nodup_fst B.L.fstN y1 hx1))
    refine ⟨R3, fun e he => ?_⟩
    rcases s3 e he with h | ⟨y, (h | rfl) | ⟨D', h, h'⟩, h2⟩
    · exact .inl h
    · exact .inr ⟨y, .inl h, h2⟩
    · exact .inr ⟨y, .inr ⟨D, by simp [keys], hx1⟩, h2⟩
    · exact .inr ⟨y, .inr ⟨D', by simp [keys, h], h'⟩, h2⟩

end
end Zab

namespace Zab
open Go
set_option linter.unusedSimpArgs false
set_option linter.unusedVariables false

/-- What a lent row holds at the end. -/
inductive LentR (lc : List (Nat × List AV)) : Nat → List AV → List Nat → Prop
  | flat (e : Nat) (c : List AV) (h : isRef e = false) (hl : look lc e = some c) : LentR lc e c []
  | ref (e : Nat) (cs c : List AV) (hs : List Nat) (h : isRef e = true) (hl : look lc e = some cs) (hg : gathL lc cs = some (c, hs)) : LentR lc e c hs
inductive Lents (lc : List (Nat × List AV)) : List Nat → List (List AV) → List Nat → Prop
  | nil : Lents lc [] [] []
  | cons (e : Nat) (c : List AV) (hs : List Nat) (es : List Nat) (cs : List (List AV)) (h : List Nat) (h1 : LentR lc e c hs) (h2 : Lents lc es cs h) : Lents lc (e :: es) (c :: cs) (hs ++ h)

section
variable {lc : List (Nat × List AV)}

theorem Lents.append {e1 : List Nat} {c1 : List (List AV)} {h1 : List Nat} (a : Lents lc e1 c1 h1) {e2 : List Nat} {c2 : List (List AV)} {h2 : List Nat} (b : Lents lc e2 c2 h2) : Lents lc (e1 ++ e2) (c1 ++ c2) (h1 ++ h2) := by
  induction a with
  | nil => exact b
  | cons e c hs es cs h p q ih => rw [List.append_assoc]; exact .cons e c hs _ _ _ p ih

theorem lentR_of {i : Nat} {x : AV} {a : List (List AV)} {h : List Nat} (hl : lentR lc i x = some (a, h)) : Lents lc (rootsR i x) a h := by
  cases x
  case op cs =>
    simp only [lentR] at hl
    split at hl <;> first | (cases hl; done) | skip
    rename_i c hc
    cases hr : isRef i
    · simp only [hr, cond_false, Option.some.injEq, Prod.mk.injEq] at hl
      obtain ⟨rfl, rfl⟩ := hl
      exact .cons i c [] [] [] [] (.flat i c hr hc) .nil
    · simp [hr] at hl
  case oq cs =>
    simp only [lentR] at hl
    split at hl <;> first | (cases hl; done) | skip
    rename_i c hc
    split at hl <;> first | (cases hl; done) | skip
    rename_i g ch hg
    cases hl
    have := Lents.cons (lc := lc) _ g h [] [] [] (.ref (1000000000000 + i) c g h (slot_ref i) hc hg) .nil
    simpa [rootsR] using this
  all_goals (simp only [lentR, Option.some.injEq, Prod.mk.injEq] at hl; obtain ⟨rfl, rfl⟩ := hl; exact .nil)

theorem lentParts_of {j : Nat} : ∀ {xs : List AV} {k : Nat} {a : List (List AV)} {h : List Nat}, lentParts lc j k xs = some (a, h) → Lents lc (rootsP j k xs) a h
  | [], k, a, h, hl => by
    simp only [lentParts, Option.some.injEq, Prod.mk.injEq] at hl
    obtain ⟨rfl, rfl⟩ := hl; exact .nil
  | x :: r, k, a, h, hl => by
    simp only [lentParts] at hl
    split at hl <;> first | (cases hl; done) | skip
    rename_i a1 h1 a2 h2 p1 p2
    cases hl
    exact (lentR_of p1).append (lentParts_of p2)

theorem lentA_of {j : Nat} {x : AV} {a : List (List AV)} {h : List Nat} (hl : lentA lc j x = some (a, h)) : Lents lc (rootsA j x) a h := by
  cases x
  case aq cs => exact lentParts_of hl
  case fn f cs => exact lentParts_of hl
  all_goals (simp only [lentA] at hl; exact lentR_of hl)

theorem lentOf_of : ∀ {xs : List AV} {j : Nat} {a : List (List AV)} {h : List Nat}, lentOf lc j xs = some (a, h) → Lents lc (rootsIn j xs) a h
  | [], j, a, h, hl => by
    simp only [lentOf, Option.some.injEq, Prod.mk.injEq] at hl
    obtain ⟨rfl, rfl⟩ := hl; exact .nil
  | x :: r, j, a, h, hl => by
    simp only [lentOf] at hl
    split at hl <;> first | (cases hl; done) | skip
    rename_i a1 h1 a2 h2 p1 p2
    cases hl
    exact (lentA_of p1).append (lentOf_of p2)

theorem rowsL_bare {E : Nat} : ∀ {g : List AV} {o : Nat}, hasSlCL g = false → ∀ p ∈ rowsL E o g, hasSlL p.2 = false
  | [], o, _, p, h => by simp [rowsL] at h
  | x :: r, o, hb, p, h => by
    simp only [hasSlCL, Bool.or_eq_false_iff] at hb
    simp only [rowsL, List.mem_append] at h
    rcases h with h | h
    · cases x <;> simp only [rows1, List.mem_singleton, List.not_mem_nil] at h
      all_goals (subst h; exact hb.1)
    · exact rowsL_bare hb.2 p h

theorem gathL_bare : ∀ {cs g : List AV} {is : List Nat}, gathL lc cs = some (g, is) → hasSlCL g = false → ∀ x ∈ cs, x.flat = true → hasSl1 x = false
  | [], g, is, _, _, x, h, _ => by cases h
  | y :: r, g, is, h, hb, x, hx, hf => by
    obtain ⟨v, i, vs, js, h1, h2, rfl, rfl⟩ := gathL_cons h
    simp only [hasSlCL, Bool.or_eq_false_iff] at hb
    rcases List.mem_cons.1 hx with rfl | hx
    · have : v = x := by
        cases x <;> first | (cases hf; done) | (simp only [gath1, AV.flat, cond_true, Option.some.injEq, Prod.mk.injEq] at h1; exact h1.1.symm)
      subst this
      exact hasSlC_flat hb.1 hf
    · exact gathL_bare h2 hb.2 x hx hf

/-- What comes back, pair by pair. -/
structure BackOf (lc : List (Nat × List AV)) (es ds : List Nat) (lent : List (List AV)) (h' : List Nat) (a b : List (Nat × List AV)) (T : List (Nat × Nat)) : Prop where
  fst : T.map (·.1) = keys b
  snd : T.map (·.2) = h'
  kid : ∀ p ∈ b, ∃ x, (p.1, x) ∈ T ∧ look lc x = some p.2 ∧ isRef x = false
  bare : hasSlLL lent = false → ∀ p ∈ b, hasSlL p.2 = false
  keys : keys a = ds
  root : ∀ p ∈ a, ∃ e, (e, p.1) ∈ es.zip ds ∧ (isRef p.1 = false → look lc e = some p.2 ∧ (hasSlLL lent = false → hasSlCL p.2 = false)) ∧
    (isRef p.1 = true → ∃ cs, look lc e = some cs ∧ RenL T (Zab.keys b) cs p.2 ∧ (hasSlLL lent = false → ∀ x ∈ cs, x.flat = true → hasSl1 x = false))

theorem backOf : ∀ {es ds : List Nat} {lent : List (List AV)} {h' : List Nat} {a b : List (Nat × List AV)}, Lents lc es lent h' → (∀ p ∈ es.zip ds, isRef p.1 = isRef p.2) → backL ds lent = some (a, b) → ∃ T, BackOf lc es ds lent h' a b T
  | es, ds, lent, h', a, b, hL, hk, hb => by
    induction hL generalizing ds a b with
    | nil =>
      cases ds with
      | nil =>
        simp only [backL, Option.some.injEq, Prod.mk.injEq] at hb
        obtain ⟨rfl, rfl⟩ := hb
        exact ⟨[], rfl, rfl, fun p h => by simp at h, fun _ p h => by simp at h, rfl, fun p h => by simp at h⟩
      | cons d ds => simp [backL] at hb
    | cons e c hs es cs h h1 h2 ih =>
      cases ds with
      | nil => simp [backL] at hb
      | cons d ds =>
        simp only [backL] at hb
        split at hb <;> first | (cases hb; done) | skip
        rename_i a1 b1 hb1
        obtain ⟨T1, t1, t2, t3, t4, t5, t6⟩ := ih _ _ _ (fun p hp => hk p (by simp [hp])) hb1
        have hkind := hk (e, d) (by simp)
        simp only at hkind
        have bareT : hasSlLL (c :: cs) = false → hasSlCL c = false ∧ hasSlLL cs = false := fun h => by simpa [hasSlLL] using h
        cases hr : isRef d
        · simp only [hr, cond_false, Option.some.injEq, Prod.mk.injEq] at hb
          obtain ⟨rfl, rfl⟩ := hb
          rw [hr] at hkind
          cases h1 with
          | flat =>
            rename_i h hl
            refine ⟨T1, t1, by simp [t2], t3, fun hb p hp => t4 (bareT hb).2 p hp, by simp [keys, t5], fun p hp => ?_⟩
            rcases List.mem_cons.1 hp with rfl | hp
            · exact ⟨e, by simp, fun _ => ⟨hl, fun hb => (bareT hb).1⟩, fun h => (by rw [hr] at h; cases h)⟩
            · obtain ⟨e', q1, q2, q3⟩ := t6 p hp
              exact ⟨e', by simp [q1], fun hf => ⟨(q2 hf).1, fun hb => (q2 hf).2 (bareT hb).2⟩, fun hf => let ⟨cs', p1, p2, p3⟩ := q3 hf; ⟨cs', p1, p2, fun hb => p3 (bareT hb).2⟩⟩
          | ref => rename_i cs0 h hl hg; rw [hkind] at h; cases h
        · simp only [hr, cond_true, Option.some.injEq, Prod.mk.injEq] at hb
          obtain ⟨rfl, rfl⟩ := hb
          rw [hr] at hkind
          cases h1 with
          | flat => rename_i h hl; rw [hkind] at h; cases h
          | ref =>
            rename_i cs0 h hl hg
            obtain ⟨g1, g2, g3, g4⟩ := gathL_of (E := d) (o := 0) hg
            refine ⟨pC d 0 cs0 ++ T1, by rw [List.map_append, keys_append, g2, t1], by rw [List.map_append, g1, t2], fun p hp => ?_, fun hb p hp => ?_, by simp [keys, t5], fun p hp => ?_⟩
            · rcases List.mem_append.1 hp with hp | hp
              · obtain ⟨x, q1, q2, q3⟩ := g4 p hp; exact ⟨x, List.mem_append_left _ q1, q2, q3⟩
              · obtain ⟨x, q1, q2, q3⟩ := t3 p hp; exact ⟨x, List.mem_append_right _ q1, q2, q3⟩
            · rcases List.mem_append.1 hp with hp | hp
              · exact rowsL_bare (bareT hb).1 p hp
              · exact t4 (bareT hb).2 p hp
            · rcases List.mem_cons.1 hp with rfl | hp
              · refine ⟨e, by simp, fun h => (by rw [hr] at h; cases h), fun _ => ⟨cs0, hl, g3.mono (fun q hq => List.mem_append_left _ hq) (fun q hq => by rw [keys_append]; exact List.mem_append_left _ hq), fun hb => gathL_bare hg (bareT hb).1⟩⟩
              · obtain ⟨e', q1, q2, q3⟩ := t6 p hp
                exact ⟨e', by simp [q1], fun hf => ⟨(q2 hf).1, fun hb => (q2 hf).2 (bareT hb).2⟩, fun hf => let ⟨cs', p1, p2, p3⟩ := q3 hf; ⟨cs', p1, p2.mono (fun q hq => List.mem_append_right _ hq) (fun q hq => by rw [keys_append]; exact List.mem_append_right _ hq), fun hb => p3 (bareT hb).2⟩⟩
end

theorem putRows_look : ∀ (rows l : List (Nat × List AV)) (j : Nat), j ∉ keys rows → look (putRows l rows) j = look l j
  | [], l, j, _ => rfl
  | (d, cs) :: r, l, j, h => by
    simp only [keys, List.mem_cons, not_or] at h
    rw [putRows, putRows_look r _ j h.2, look_put, if_neg h.1]
theorem putRows_ext : ∀ (rows l m : List (Nat × List AV)) (j : Nat), (j ∉ keys rows → look l j = look m j) → look (putRows l rows) j = look (putRows m rows) j
  | [], l, m, j, h => h (by simp [keys])
  | (d, cs) :: r, l, m, j, h => by
    rw [putRows, putRows]
    refine putRows_ext r _ _ j fun hj => ?_
    rw [look_put, look_put]
    by_cases hd : j = d
    · simp [hd]
    · rw [if_neg hd, if_neg hd]; exact h (by simp [keys, hd, hj])

theorem kills_s : ∀ (L : List Nat) (S T : St), S.s = T.s → (S.kills L).s = (T.kills L).s
  | [], S, T, h => h
  | d :: r, S, T, h => kills_s r _ _ (by show mapS (kill1 d) S.s = mapS (kill1 d) T.s; rw [h])
theorem kills_look : ∀ (L : List Nat) (S T : St) (e : Nat), (e ∉ L → look S.l e = look T.l e) → look (S.kills L).l e = look (T.kills L).l e
  | [], S, T, e, h => h (by simp)
  | d :: r, S, T, e, h => by
    refine kills_look r _ _ e fun hr => ?_
    rw [look_kill, look_kill]
    by_cases hd : e = d
    · simp [hd]
    · rw [if_neg hd, if_neg hd, h (by simp [hd, hr])]
theorem kills_live {K : Nat → Nat} : ∀ (L : List Nat) (S : St) {e : Nat}, Live (S.kills L).l K e → Live S.l K e
  | [], S, e, h => h
  | d :: r, S, e, h => by
    have := kills_live r _ h
    refine ⟨fun hn => this.1 ?_, this.2⟩
    rw [look_kill, hn]; simp
theorem kills_none : ∀ (L : List Nat) (S : St) {e : Nat}, look S.l e = none → look (S.kills L).l e = none
  | [], S, e, h => h
  | d :: r, S, e, h => kills_none r _ (by rw [look_kill, h]; simp)

section
variable {mv : List Nat} {C : Ctx} {A K : Nat → Nat} {S : St} {a : Act} {w : World} {as vs : List AV} {ds ch : List Nat} {nt : Nat} {A' K' : Nat → Nat} {S' : St} {a' : Act} {w' : World}

/-- Cells of the callee's, for the caller. -/
theorem Back.conv (B : Back mv C A K S a w as vs ds ch nt A' K' S' a' w') {F : List Nat} {x : AV} {v : Value} (hb : anyRs mv as = true → hasSl1 x = false) (h : FRep C.E w' (Still (calC mv C A K S.l w as (ds ++ ch) vs.length nt) A' K' S'.l w') x v) : FRep C.E w' (B.N F) x v := by
  cases hany : anyRs mv as
  · exact h.mono (fun b hb => .inr (.inl ⟨hany, hb⟩)) (fun _ _ => rfl)
  · exact h.bare (hb hany)

theorem Back.convRow (B : Back mv C A K S a w as vs ds ch nt A' K' S' a' w') {F : List Nat} {blk k : Nat} {cs : List AV} (hb : anyRs mv as = true → hasSlL cs = false) (h : Row C.E w' (Still (calC mv C A K S.l w as (ds ++ ch) vs.length nt) A' K' S'.l w') blk k cs) : Row C.E w' (B.N F) blk k cs :=
  ⟨h.le, fun hk => let ⟨cc, e, h1, h2, h3⟩ := h.row hk; ⟨cc, e, h1, h2, fun j hj => let ⟨v, p, q⟩ := h3 j hj; ⟨v, p, B.conv (fun hany => hasSlL_of (hb hany) j hj) q⟩⟩⟩

theorem row_take {E : Env} {w : World} {N : Nat → Prop} {blk k : Nat} {cs : List AV} (n : Nat) (h : Row E w N blk k cs) : Row E w N blk k (cs.take n) :=
  ⟨by have := h.le; simp; omega, fun hk => let ⟨cc, e, h1, h2, h3⟩ := h.row hk; ⟨cc, e, h1, h2, fun j hj => by
    have hj' : j < cs.length := by simp at hj; omega
    obtain ⟨v, p, q⟩ := h3 j hj'
    exact ⟨v, p, by simpa using q⟩⟩⟩

/-- Cells that may be names, of the callee's, under the caller's names. -/
theorem Back.convQ (B : Back mv C A K S a w as vs ds ch nt A' K' S' a' w') {F : List Nat} {T : List (Nat × Nat)} {Cs : List Nat} {A2 K2 : Nat → Nat} (hP : ∀ D x, (D, x) ∈ T → A2 D = A' x ∧ K2 D = K' x) (hC : ∀ D ∈ Cs, rootB C.np D = false)
    {x y : AV} (h : Ren T Cs x y) (hb : anyRs mv as = true → x.flat = true → hasSl1 x = false) {np' : Nat} {v : Value} (hv : V1 C.E np' w' (Still (calC mv C A K S.l w as (ds ++ ch) vs.length nt) A' K' S'.l w') A' K' x v) : V1 C.E C.np w' (B.N F) A2 K2 y v := by
  cases h with
  | same _ hx =>
    rcases hx with hx | rfl
    · exact .flat (B.conv (fun hany => hb hany hx) (hv.ofF hx))
    · exact .gone _
  | rf d e hp =>
    have := vrep_rf (.one hv)
    subst this
    rw [← (hP e d hp).1]; exact .rf e 0
  | rs d e n sz hp hc =>
    obtain ⟨base, c, rfl, _, hn, hk, hb⟩ := vrep_rs (.one hv)
    obtain ⟨q1, q2⟩ := hP e d hp
    exact .rs e 0 n sz base c (hC e hc) hn (by rw [q2]; exact hk) (by rw [q1, q2]; exact hb)

theorem Ren.cellQ {T : List (Nat × Nat)} {Cs : List Nat} {x y : AV} (h : Ren T Cs x y) : y.cellQ = true := by
  cases h with
  | same _ hx => rcases hx with hx | rfl
                 · exact flat_cellQ hx
                 · rfl
  | rf => rfl
  | rs => rfl

theorem Back.convRowQ (B : Back mv C A K S a w as vs ds ch nt A' K' S' a' w') {F : List Nat} {T : List (Nat × Nat)} {Cs : List Nat} {A2 K2 : Nat → Nat} (hP : ∀ D x, (D, x) ∈ T → A2 D = A' x ∧ K2 D = K' x) (hC : ∀ D ∈ Cs, rootB C.np D = false)
    {cs c : List AV} (h : RenL T Cs cs c) (hb : anyRs mv as = true → ∀ x ∈ cs, x.flat = true → hasSl1 x = false) {np' blk k : Nat} (hr : RowQ C.E np' w' (Still (calC mv C A K S.l w as (ds ++ ch) vs.length nt) A' K' S'.l w') A' K' blk k cs) : RowQ C.E C.np w' (B.N F) A2 K2 blk k c :=
  ⟨by rw [← h.1]; exact hr.le, fun hk => by
    obtain ⟨cc, e, h1, h2, h3⟩ := hr.row hk
    refine ⟨cc, e, h1, h2, fun j hj => ?_⟩
    have hj' : j < cs.length := by rw [h.1]; exact hj
    obtain ⟨v, p, o, q, r⟩ := h3 j hj'
    have hren := h.2 j hj' hj
    exact ⟨v, p, o, hren.cellQ, B.convQ hP hC hren (fun hany hf => hb hany _ (List.getElem_mem hj') hf) r⟩⟩

/-- WHAT WAS LENT, BACK. -/
theorem Back.after (B : Back mv C A K S a w as vs ds ch nt A' K' S' a' w') {F : List Nat} {lent : List (List AV)} {h' : List Nat} (hlent : lentOf S'.l 0 vs = some (lent, h')) (hb : anyRs mv as = true → hasSlLL lent = false)
    (hnd : h'.Nodup) (hF : ∀ x ∈ h', x ∉ F) (hroot : ∀ x ∈ h', rootB vs.length x = false) (hFr : ∀ x ∈ F, rootB vs.length x = false) {S1 : St} (h : afterK S ds ch lent = some S1) :
    ∃ A1 K1, RelN C A1 K1 S1 a w' (B.N F) ∧ Sep A K (S.without (ds ++ ch)).l A' K' S'.l (fun y => y ∈ h' ∨ rootB vs.length y = true) A1 K1 S1.l := by
  unfold afterK at h
  split at h <;> first | (cases h; done) | skip
  rename_i ra rb hbl
  simp only [Bool.cond_eq_ite] at h
  split at h <;> first | (cases h; done) | skip
  rename_i hok
  cases h
  simp only [Bool.and_eq_true, nodupB_iff] at hok
  obtain ⟨hkn, hch⟩ := hok
  obtain ⟨T, bk⟩ := backOf (lentOf_of hlent) B.L.ok.2.2.2 hbl
  have hkb : (keys rb).Nodup := (List.nodup_append.1 hkn).2.1
  have hka : (keys ra).Nodup := (List.nodup_append.1 hkn).1
  have hT1 : (T.map (·.1)).Nodup := by rw [bk.fst]; exact hkb
  have hT2 : (T.map (·.2)).Nodup := by rw [bk.snd]; exact hnd
  have hTx : ∀ D x, (D, x) ∈ T → x ∈ h' := fun D x hx => by rw [← bk.snd]; exact List.mem_map.2 ⟨_, hx, rfl⟩
  -- the rows that are new
  have R0 := (B.base F).kills (ch ++ keys rb)
  have s0 : Sep A K (S.without (ds ++ ch)).l A' K' S'.l (fun _ => False) A K ((S.without (ds ++ ch)).kills (ch ++ keys rb)).l := fun e he => .inl ⟨kills_live _ _ he, rfl⟩
  obtain ⟨A1, K1, R1, s1, q1, q2, q3⟩ := B.adds hT1 hT2 rb R0 s0 (fun p hp => .inl ⟨Free.kills _ _ (List.mem_append_right _ (keys_mem.2 ⟨p.2, hp⟩)), allCh_of hch _ (keys_mem.2 ⟨p.2, hp⟩)⟩) hkb (fun p hp => by
    obtain ⟨x, x1, x2, x3⟩ := bk.kid p hp
    exact ⟨x, x1, ⟨fun hk => ⟨by rw [x2]; simp, hk⟩, hF x (hTx _ _ x1), id⟩, B.convRow (fun hany => bk.bare (hb hany) p hp) ((B.R'.row x p.2 x2).flat x3)⟩)
  -- the rows that come back
  have hds : ∀ d ∈ ds, d ∉ keys rb := fun d hd hd' => (List.nodup_append.1 hkn).2.2 d (by rw [bk.keys]; exact hd) d hd' rfl
  obtain ⟨R2, s2⟩ := B.roots ra R1 s1 hka (fun p hp => by
    obtain ⟨e, e1, e2, e3⟩ := bk.root p hp
    have hpd : p.1 ∈ ds := by rw [← bk.keys]; exact keys_mem.2 ⟨p.2, hp⟩
    have hpair := B.L.lend.zip _ e1
    have her : e ∈ rootsIn 0 vs := (List.of_mem_zip e1).1
    have hrb := B.L.ok.2.1 e her
    obtain ⟨n1, n2⟩ := q1 p.1 (hds _ hpd)
    have hle : look S'.l e ≠ none := by
      cases hr : isRef p.1
      · rw [(e2 hr).1]; simp
      · obtain ⟨cs, h1, _⟩ := e3 hr; rw [h1]; simp
    obtain ⟨a1, a2⟩ := B.R'.arg e hrb hle
    have c1 : calA A (pIn mv S.l 0 as) e = A p.1 := calA_of B.L.fstN hpair
    have c2 : calA K (pIn mv S.l 0 as) e = K p.1 := calA_of B.L.fstN hpair
    have a1 : A' e = A p.1 := a1.trans c1
    have a2 : K' e = K p.1 := a2.trans c2
    obtain ⟨cl, csl, _, hlook, _⟩ := B.L.pair hpair
    refine ⟨fun hr => by rw [n1, n2]; exact B.R.arg p.1 hr (by rw [hlook]; simp), e, hpair, ⟨fun hk => ⟨hle, hk⟩, fun hx => (by rw [hFr e hx] at hrb; cases hrb), ?_⟩, by rw [n1, a1], by rw [n2, a2], ⟨fun hr => ?_, fun hr => ?_⟩⟩
    · rintro (h | ⟨D, _, h⟩)
      · exact h
      · rw [hroot e (hTx _ _ h)] at hrb; cases hrb
    · rw [n1, n2, ← a1, ← a2]
      have her' : isRef e = false := by rw [B.L.ok.2.2.2 _ e1]; exact hr
      obtain ⟨l1, l2⟩ := e2 hr
      have hrow := (B.R'.row e p.2 l1).flat her'
      refine ⟨hrow.le, fun hk => ?_⟩
      obtain ⟨cc, t, h1, h2, h3⟩ := hrow.row hk
      refine ⟨cc, t, h1, h2, fun j hj => ?_⟩
      obtain ⟨v, p1, p2⟩ := h3 j hj
      exact ⟨v, p1, B.conv (fun hany => hasSlC_flat (hasSlCL_of (l2 (hb hany)) j hj) p2.flat) p2⟩
    · rw [n1, n2, ← a1, ← a2]
      have her' : isRef e = true := by rw [B.L.ok.2.2.2 _ e1]; exact hr
      obtain ⟨cs, l1, l2, l3⟩ := e3 hr
      exact B.convRowQ (fun D x hx => q2 D (by rw [← bk.fst]; exact List.mem_map.2 ⟨_, hx, rfl⟩) x hx) (fun D hD => ch_own B.R.npl (allCh_of hch D hD)) l2 (fun hany => l3 (hb hany)) ((B.R'.row e cs l1).ref her'))
  refine ⟨A1, K1, R2.ext (fun i => ?_) (fun e => ?_), fun e he => ?_⟩
  · show get (S.kills (ch ++ keys rb)).s i = get ((S.without (ds ++ ch)).kills (ch ++ keys rb)).s i
    rw [kills_s _ S (S.without (ds ++ ch)) rfl]
  · show look (putRows (putRows (S.kills (ch ++ keys rb)).l rb) ra) e = look (putRows (putRows ((S.without (ds ++ ch)).kills (ch ++ keys rb)).l rb) ra) e
    refine putRows_ext _ _ _ e fun h1 => putRows_ext _ _ _ e fun h2 => kills_look _ _ _ e fun h3 => ?_
    simp only [St.without, look_delAll]
    rw [bk.keys] at h1
    rw [if_neg]
    simp only [List.mem_append, not_or] at h3 ⊢
    exact ⟨h1, h3.1⟩
  · have he' : Live (putRows (putRows ((S.without (ds ++ ch)).kills (ch ++ keys rb)).l rb) ra) K1 e := by
      refine ⟨fun hn => he.1 ?_, he.2⟩
      show look (putRows (putRows (S.kills (ch ++ keys rb)).l rb) ra) e = none
      rw [← hn]
      refine putRows_ext _ _ _ e fun h1 => putRows_ext _ _ _ e fun h2 => kills_look _ _ _ e fun h3 => ?_
      simp only [St.without, look_delAll]
      rw [bk.keys] at h1
      rw [if_neg]
      simp only [List.mem_append, not_or] at h3 ⊢
      exact ⟨h1, h3.1⟩
    rcases s2 e he' with h | ⟨y, (h | ⟨D, hD, h⟩) | ⟨D, hD, h⟩, h2⟩
    · exact .inl h
    · exact h.elim
    · exact .inr ⟨y, .inl (hTx _ _ h), h2⟩
    · refine .inr ⟨y, .inr ?_, h2⟩
      obtain ⟨c, hc⟩ := keys_mem.1 hD
      obtain ⟨e', e1, _⟩ := bk.root _ hc
      have := nodup_snd B.L.sndN h (B.L.lend.zip _ e1)
      subst this
      exact B.L.ok.2.1 _ (List.of_mem_zip e1).1
end
end Zab

namespace Zab
open Go
set_option linter.unusedSimpArgs false
set_option linter.unusedVariables false

theorem countR_of : ∀ {l : List AV} {d : Nat}, countR d l = 1 → ∀ i j (h1 : i < l.length) (h2 : j < l.length), names1 d l[i] → names1 d l[j] → i = j := by
  have pos : ∀ {l : List AV} {d : Nat} (j : Nat) (h : j < l.length), names1 d l[j] → 0 < countR d l := by
    intro l d
    induction l with
    | nil => intro j h; simp at h
    | cons x r ih =>
      intro j h hn
      cases j with
      | zero =>
        simp only [List.getElem_cons_zero] at hn
        cases x <;> simp only [names1] at hn <;> (subst hn; simp [countR]; omega)
      | succ j =>
        have := ih j (by simpa using h) (by simpa using hn)
        cases x <;> simp only [countR] <;> omega
  intro l d
  induction l with
  | nil => intro _ i j h1; simp at h1
  | cons x r ih =>
    intro hc i j h1 h2 hi hj
    cases i with
    | zero =>
      cases j with
      | zero => rfl
      | succ j =>
        simp only [List.getElem_cons_zero] at hi
        have := pos j (by simpa using h2) (by simpa using hj)
        cases x <;> simp only [names1] at hi <;> (subst hi; simp [countR] at hc; omega)
    | succ i =>
      cases j with
      | zero =>
        simp only [List.getElem_cons_zero] at hj
        have := pos i (by simpa using h1) (by simpa using hi)
        cases x <;> simp only [names1] at hj <;> (subst hj; simp [countR] at hc; omega)
      | succ j =>
        have h1' := pos i (by simpa using h1) (by simpa using hi)
        refine congrArg (· + 1) (ih ?_ i j (by simpa using h1) (by simpa using h2) (by simpa using hi) (by simpa using hj))
        cases x <;> simp only [countR] at hc <;> first | exact hc | (rename_i e _; cases hb : Nat.beq e d <;> simp [hb] at hc <;> omega) | (rename_i e _ _ _; cases hb : Nat.beq e d <;> simp [hb] at hc <;> omega)

/-- What a result says. -/
inductive RetOf (np : Nat) (l : List (Nat × List AV)) : AV → AV → List Nat → List Nat → Prop
  | own (d n sz m : Nat) (cs : List AV) (hl : look l d = some cs) (hr : isRef d = false) (hd : rootB np d = false) : RetOf np l (.rs d 0 n sz) (.os (cs.take m) n sz) [d] []
  | view (d off n sz : Nat) (cs : List AV) (hl : look l d = some cs) (hr : isRef d = false) (hd : rootB np d = false) (hle : off + n * sz ≤ cs.length) : RetOf np l (.rs d off n sz) (.sl ((cs.drop off).take (n * sz)) n) [] [d]
  | ptr (d : Nat) (cs : List AV) (hl : look l d = some cs) (hr : isRef d = false) (hd : rootB np d = false) : RetOf np l (.rf d 0) (.op cs) [d] []
  | ref (d : Nat) (cs c : List AV) (ch : List Nat) (hl : look l d = some cs) (hr : isRef d = true) (hd : rootB np d = false) (hg : gathL l cs = some (c, ch)) : RetOf np l (.rf d 0) (.oq c) (d :: ch) []
  | aq (cs c : List AV) (ch : List Nat) (hg : gathL l cs = some (c, ch)) : RetOf np l (.aq cs) (.aq c) ch []
  | fn (f : Nat) (x : AV) (cs c : List AV) (ch : List Nat) (hg : gathL l (x :: cs) = some (c, ch)) : RetOf np l (.fn f (x :: cs)) (.fn f c) ch []
  | fn0 (f : Nat) : RetOf np l (.fn f []) (.fn f []) [] []
  | val (x : AV) (h : x.flat = true ∨ (∃ cs, x = .ag cs) ∨ ∃ cs j, x = .el cs j) : RetOf np l x x [] []

theorem toRet_of {np : Nat} {l : List (Nat × List AV)} {all : List AV} {x v : AV} {h s : List Nat} (hh : toRet np l all x = some (v, h, s)) : RetOf np l x v h s := by
  cases x
  case rs d off n sz =>
    simp only [toRet, Bool.cond_eq_ite] at hh
    split at hh <;> first | (cases hh; done) | skip
    rename_i cs hl
    split at hh <;> first | (cases hh; done) | skip
    rename_i hk
    simp only [Bool.or_eq_true, not_or, Bool.not_eq_true] at hk
    split at hh
    · rename_i hb
      simp only [Bool.and_eq_true, Nat.beq_eq, Nat.ble_eq] at hb
      obtain ⟨rfl, hb1, hb2⟩ := hb
      cases hh
      split
      · have := RetOf.own (np := np) (l := l) d n sz cs.length cs hl hk.1 hk.2
        rwa [List.take_length] at this
      · exact RetOf.own d n sz (n * sz) cs hl hk.1 hk.2
    · split at hh <;> first | (cases hh; done) | skip
      rename_i hb
      cases hh
      exact .view d off n sz cs hl hk.1 hk.2 (Nat.le_of_ble_eq_true hb)
  case rf d off =>
    simp only [toRet, Bool.cond_eq_ite] at hh
    split at hh <;> first | (cases hh; done) | skip
    rename_i cs hl
    split at hh <;> first | (cases hh; done) | skip
    rename_i hk
    simp only [Bool.or_eq_true, not_or, Bool.not_eq_true', Bool.not_eq_false, Nat.beq_eq, Bool.not_eq_true] at hk
    obtain ⟨hk1, rfl⟩ := hk
    split at hh
    · rename_i hr
      split at hh <;> first | (cases hh; done) | skip
      rename_i c ch hg
      cases hh
      exact .ref d cs c ch hl hr hk1 hg
    · rename_i hr
      cases hh
      exact .ptr d cs hl (by simpa using hr) hk1
  case aq cs =>
    simp only [toRet] at hh
    split at hh <;> first | (cases hh; done) | skip
    rename_i c ch hg
    cases hh
    exact .aq cs c h hg
  case fn f cs =>
    cases cs with
    | nil => simp only [toRet, Option.some.injEq, Prod.mk.injEq] at hh; obtain ⟨rfl, rfl, rfl⟩ := hh; exact .fn0 f
    | cons x cs =>
      simp only [toRet] at hh
      split at hh <;> first | (cases hh; done) | skip
      rename_i c ch hg
      cases hh
      exact .fn f x cs c h hg
  all_goals
    simp only [toRet] at hh
    first
    | (cases hh; done)
    | (simp only [Option.some.injEq, Prod.mk.injEq] at hh
       obtain ⟨rfl, rfl, rfl⟩ := hh
       first
       | exact .val _ (.inl rfl)
       | exact .val _ (.inr (.inl ⟨_, rfl⟩))
       | exact .val _ (.inr (.inr ⟨_, _, rfl⟩)))

theorem RetOf.notTp {np : Nat} {l : List (Nat × List AV)} {raw v : AV} {h s : List Nat} (hr : RetOf np l raw v h s) : ∀ l, v ≠ .tp l := by
  intro l e
  cases hr with
  | val _ hx => subst e; rcases hx with hx | ⟨_, hx⟩ | ⟨_, _, hx⟩ <;> cases hx
  | _ => cases e

/-- Results, one by one. -/
inductive Rets (np : Nat) (l : List (Nat × List AV)) : List AV → List AV → List Nat → List Nat → Prop
  | nil : Rets np l [] [] [] []
  | cons (x v : AV) (h s : List Nat) (xs vs : List AV) (hs ss : List Nat) (h1 : RetOf np l x v h s) (h2 : Rets np l xs vs hs ss) : Rets np l (x :: xs) (v :: vs) (h ++ hs) (s ++ ss)
theorem toRets_of {np : Nat} {l : List (Nat × List AV)} {all : List AV} : ∀ {xs vs : List AV} {h s : List Nat}, toRets np l all xs = some (vs, h, s) → Rets np l xs vs h s
  | [], vs, h, s, hh => by
    simp only [toRets, Option.some.injEq, Prod.mk.injEq] at hh
    obtain ⟨rfl, rfl, rfl⟩ := hh; exact .nil
  | x :: r, vs, h, s, hh => by
    simp only [toRets] at hh
    split at hh <;> first | (cases hh; done) | skip
    rename_i v h1 s1 vs1 h2 s2 p1 p2
    cases hh
    exact .cons x v h1 s1 r vs1 h2 s2 (toRet_of p1) (toRets_of p2)

theorem Rets.get {np : Nat} {l : List (Nat × List AV)} {xs vs : List AV} {h s : List Nat} (hr : Rets np l xs vs h s) : xs.length = vs.length ∧ ∀ j (h1 : j < xs.length) (h2 : j < vs.length), ∃ hj sj, RetOf np l xs[j] vs[j] hj sj ∧ (∀ x ∈ hj, x ∈ h) ∧ (∀ x ∈ sj, x ∈ s) := by
  induction hr with
  | nil => exact ⟨rfl, fun j h => by simp at h⟩
  | cons x v h s xs vs hs ss h1 h2 ih =>
    refine ⟨by simp [ih.1], fun j p q => ?_⟩
    cases j with
    | zero => exact ⟨h, s, h1, fun x hx => List.mem_append_left _ hx, fun x hx => List.mem_append_left _ hx⟩
    | succ j =>
      obtain ⟨hj, sj, r1, r2, r3⟩ := ih.2 j (by simpa using p) (by simpa using q)
      exact ⟨hj, sj, r1, fun x hx => List.mem_append_right _ (r2 x hx), fun x hx => List.mem_append_right _ (r3 x hx)⟩

/-- .. one of them set apart. -/
theorem Rets.apart {np : Nat} {l : List (Nat × List AV)} {xs vs : List AV} {h s : List Nat} (hr : Rets np l xs vs h s) (i : Nat) (hi : i < xs.length) (hi2 : i < vs.length) : ∃ hi' si hrest, RetOf np l (xs[i]) (vs[i]) hi' si ∧ h.Perm (hi' ++ hrest) ∧ (∀ x ∈ si, x ∈ s) ∧
    ∀ j (h1 : j < xs.length) (h2 : j < vs.length), j ≠ i → ∃ hj sj, RetOf np l xs[j] vs[j] hj sj ∧ (∀ x ∈ hj, x ∈ hrest) ∧ (∀ x ∈ sj, x ∈ s) := by
  induction hr generalizing i with
  | nil => simp at hi
  | cons x v h s xs vs hs ss h1 h2 ih =>
    cases i with
    | zero =>
      refine ⟨h, s, hs, h1, .refl _, fun x hx => List.mem_append_left _ hx, fun j p q hj => ?_⟩
      cases j with
      | zero => exact absurd rfl hj
      | succ j =>
        obtain ⟨hj, sj, r1, r2, r3⟩ := h2.get.2 j (by simpa using p) (by simpa using q)
        exact ⟨hj, sj, r1, r2, fun x hx => List.mem_append_right _ (r3 x hx)⟩
    | succ i =>
      obtain ⟨hi', si, hrest, r1, r2, r3, r4⟩ := ih i (by simpa using hi) (by simpa using hi2)
      refine ⟨hi', si, h ++ hrest, r1, ?_, fun x hx => List.mem_append_right _ (r3 x hx), fun j p q hj => ?_⟩
      · refine (List.Perm.append_left h r2).trans ?_
        rw [← List.append_assoc, ← List.append_assoc]
        exact List.perm_append_comm.append_right hrest
      · cases j with
        | zero => exact ⟨h, s, h1, fun x hx => List.mem_append_left _ hx, fun x hx => List.mem_append_left _ hx⟩
        | succ j =>
          obtain ⟨hj', sj, q1, q2, q3⟩ := r4 j (by simpa using p) (by simpa using q) (fun e => hj (by rw [e]))
          exact ⟨hj', sj, q1, fun x hx => List.mem_append_right _ (q2 x hx), fun x hx => List.mem_append_right _ (q3 x hx)⟩

theorem fromRetL_of : ∀ {l us : List AV}, fromRetL l = some us → l.length = us.length ∧ ∀ j (h1 : j < l.length) (h2 : j < us.length), fromRet1 l[j] = some us[j]
  | [], us, h => by simp only [fromRetL, Option.some.injEq] at h; subst h; exact ⟨rfl, fun j h => by simp at h⟩
  | x :: r, us, h => by
    simp only [fromRetL] at h
    cases hx : fromRet1 x with
    | none => simp [hx] at h
    | some v =>
      cases hr : fromRetL r with
      | none => simp [hx, hr] at h
      | some vs =>
        simp only [hx, hr, Option.some.injEq] at h
        subst h
        obtain ⟨i1, i2⟩ := fromRetL_of hr
        refine ⟨by simp [i1], fun j h1 h2 => ?_⟩
        cases j with
        | zero => exact hx
        | succ j => exact i2 j (by simpa using h1) (by simpa using h2)

theorem hasSl2L_of : ∀ {l : List AV}, hasSl2L l = false → ∀ j (h : j < l.length), hasSl2 l[j] = false
  | [], _, j, h => by simp at h
  | x :: r, h, j, hj => by
    simp only [hasSl2L, Bool.or_eq_false_iff] at h
    cases j with
    | zero => exact h.1
    | succ j => exact hasSl2L_of h.2 j (by simpa using hj)

theorem one_cases (rs : List AV) : (∃ x, rs = [x] ∧ one rs = x) ∨ (rs.length ≠ 1 ∧ one rs = .tp rs) := by
  match rs with
  | [] => right; exact ⟨by simp, rfl⟩
  | [x] => left; exact ⟨x, rfl, rfl⟩
  | x :: y :: r => right; exact ⟨by simp, rfl⟩

theorem oneV_many {cvs : List Value} (h : cvs.length ≠ 1) : oneV cvs = .tuple cvs.toArray := by
  match cvs, h with
  | [], _ => rfl
  | [x], h => simp at h
  | x :: y :: r, _ => rfl

section
variable {mv : List Nat} {C : Ctx} {A K : Nat → Nat} {S : St} {a : Act} {w : World} {as vs : List AV} {ds ch : List Nat} {nt : Nat} {A' K' : Nat → Nat} {S' : St} {a' : Act} {w' : World}

/-- Cells of a row that nobody writes any more. -/
theorem Back.slice (B : Back mv C A K S a w as vs ds ch nt A' K' S' a' w') {F : List Nat} {d off n sz m : Nat} {cs : List AV} (hl : look S'.l d = some cs) (hr : isRef d = false) (hF : d ∈ F) (hb : anyRs mv as = true → hasSlL ((cs.drop off).take m) = false) {cv : Value}
    (hv : V1 C.E vs.length w' (Still (calC mv C A K S.l w as (ds ++ ch) vs.length nt) A' K' S'.l w') A' K' (.rs d off n sz) cv) : FRep C.E w' (B.N F) (.sl ((cs.drop off).take m) n) cv := by
  obtain ⟨base, c, rfl, hnp, hn, hk, hb0⟩ := vrep_rs (.one hv)
  have hrow := (B.R'.row d cs hl).flat hr
  by_cases hk0 : 0 < K' d
  · obtain ⟨cc, e, h1, h2, h3⟩ := hrow.list hk0
    have hr := (h3.drop off).take m
    have hlen := hrow.le
    refine .sl _ n base c (fun j => cc.getD (off + j) undef) hn (.inr ⟨A' d, off, hb0 hk0, .inr (.inr ⟨d, hF, ⟨by rw [hl]; simp, hk0⟩, rfl⟩), fun j hj => ?_⟩) fun j hj => ?_
    · simp only [List.length_take, List.length_drop] at hj
      rw [cell_of h1]
      simp [show off + j < cc.length by omega]
    · have hj0 := hj
      simp only [List.length_take, List.length_drop] at hj
      have hj2 : j < (((cc.take cs.length).drop off).take m).length := by simp; omega
      have := hr.2 j hj0 hj2
      have := B.conv (F := F) (fun hany => hasSlL_of (hb hany) j hj0) this
      simp only [List.getElem_take, List.getElem_drop] at this ⊢
      simpa [show off + j < cc.length by omega] using this
  · have : cs = [] := List.length_eq_zero_iff.1 (by have := hrow.le; omega)
    subst this
    refine .sl _ n base c (fun _ => undef) hn (.inl (by simp)) fun j hj => by simp at hj

/-- A struct's parts, by value. -/
theorem Back.frzP (B : Back mv C A K S a w as vs ds ch nt A' K' S' a' w') {F : List Nat} : ∀ {cs c us : List AV} {is : List Nat}, gathL S'.l cs = some (c, is) → Zab.frzP c = some us → (∀ x ∈ is, x ∈ F) → (anyRs mv as = true → hasSlCL c = false) →
    cs.length = us.length ∧ ∀ j (h1 : j < cs.length) (h2 : j < us.length) (v : Value), V1 C.E vs.length w' (Still (calC mv C A K S.l w as (ds ++ ch) vs.length nt) A' K' S'.l w') A' K' cs[j] v → FRep C.E w' (B.N F) us[j] v
  | [], c, us, is, hg, hf, _, _ => by
    simp only [gathL, Option.some.injEq, Prod.mk.injEq] at hg
    obtain ⟨rfl, rfl⟩ := hg
    simp only [Zab.frzP, Option.some.injEq] at hf
    subst hf
    exact ⟨rfl, fun j h => by simp at h⟩
  | x :: r, c, us, is, hg, hf, hF, hb => by
    obtain ⟨v, i, vs', js, h1, h2, rfl, rfl⟩ := gathL_cons hg
    have hbare : anyRs mv as = true → hasSlC v = false ∧ hasSlCL vs' = false := fun hany => by simpa [hasSlCL] using hb hany
    have key : ∃ u us', us = u :: us' ∧ Zab.frzP vs' = some us' ∧ ((∃ cs n sz, v = .os cs n sz ∧ u = .sl cs n) ∨ (v.flat = true ∧ u = v)) := by
      unfold Zab.frzP at hf
      split at hf
      · rename_i hh; cases hh
      · rename_i cs n sz r' hh
        cases hh
        split at hf <;> first | (cases hf; done) | skip
        rename_i vs'' hp
        cases hf
        exact ⟨_, _, rfl, hp, .inl ⟨_, _, _, rfl, rfl⟩⟩
      · rename_i y r' hx hh
        cases hh
        cases hfl : v.flat
        · simp [hfl] at hf
        · simp only [hfl, cond_true] at hf
          split at hf <;> first | (cases hf; done) | skip
          rename_i vs'' hp
          cases hf
          exact ⟨_, _, rfl, hp, .inr ⟨rfl, rfl⟩⟩
    obtain ⟨u, us', rfl, hp, hu⟩ := key
    obtain ⟨i1, i2⟩ := B.frzP h2 hp (fun x hx => hF x (List.mem_append_right _ hx)) (fun hany => (hbare hany).2)
    refine ⟨by simp [i1], fun j p q cv hv => ?_⟩
    cases j with
    | succ j => exact i2 j (by simpa using p) (by simpa using q) cv (by simpa using hv)
    | zero =>
      simp only [List.getElem_cons_zero] at hv ⊢
      rcases hu with ⟨cs, n, sz, rfl, rfl⟩ | ⟨hfl, rfl⟩
      · -- a slice
        cases x
        case rs e off m sz' =>
          cases off with
          | succ k => simp [gath1] at h1
          | zero =>
            simp only [gath1, Bool.cond_eq_ite] at h1
            split at h1 <;> first | (cases h1; done) | skip
            rename_i hr
            split at h1 <;> first | (cases h1; done) | skip
            rename_i cs' hl
            cases h1
            have := B.slice (F := F) (off := 0) (m := cs.length) hl (by simpa using hr) (hF e (by simp)) (fun hany => by simpa [hasSlC] using (hbare hany).1) hv
            simpa using this
        case rf e off => cases off <;> simp only [gath1, Bool.cond_eq_ite] at h1 <;> first | (cases h1; done) | (split at h1 <;> first | (cases h1; done) | (split at h1 <;> cases h1))
        all_goals (simp only [gath1, AV.flat, cond_true, cond_false] at h1; cases h1)
      · cases x
        case rs e off m sz' => cases off <;> simp only [gath1, Bool.cond_eq_ite] at h1 <;> first | (cases h1; done) | (split at h1 <;> first | (cases h1; done) | (split at h1 <;> first | (cases h1; done) | (cases h1; cases hfl)))
        case rf e off => cases off <;> simp only [gath1, Bool.cond_eq_ite] at h1 <;> first | (cases h1; done) | (split at h1 <;> first | (cases h1; done) | (split at h1 <;> first | (cases h1; done) | (cases h1; cases hfl)))
        all_goals
          simp only [gath1, AV.flat, cond_true, cond_false] at h1
          first
          | (cases h1; done)
          | (simp only [Option.some.injEq, Prod.mk.injEq] at h1
             obtain ⟨rfl, rfl⟩ := h1
             first
             | (cases hfl; done)
             | exact B.conv (fun hany => hasSlC_flat (hbare hany).1 rfl) (hv.ofF rfl))

/-- What a function carries, by value. -/
theorem Back.frzF (B : Back mv C A K S a w as vs ds ch nt A' K' S' a' w') {F : List Nat} (np' : Nat) (A2 K2 : Nat → Nat) : ∀ {cs c us : List AV} {is : List Nat}, gathL S'.l cs = some (c, is) → Zab.frzF c = some us → (∀ x ∈ is, x ∈ F) → (anyRs mv as = true → hasSlCL c = false) →
    cs.length = us.length ∧ ∀ j (h1 : j < cs.length) (h2 : j < us.length) (v : Value), V1 C.E vs.length w' (Still (calC mv C A K S.l w as (ds ++ ch) vs.length nt) A' K' S'.l w') A' K' cs[j] v → V1 C.E np' w' (B.N F) A2 K2 us[j] v
  | [], c, us, is, hg, hf, _, _ => by
    simp only [gathL, Option.some.injEq, Prod.mk.injEq] at hg
    obtain ⟨rfl, rfl⟩ := hg
    simp only [Zab.frzF, Option.some.injEq] at hf
    subst hf
    exact ⟨rfl, fun j h => by simp at h⟩
  | x :: r, c, us, is, hg, hf, hF, hb => by
    obtain ⟨v, i, vs', js, h1, h2, rfl, rfl⟩ := gathL_cons hg
    have hbare : anyRs mv as = true → hasSlC v = false ∧ hasSlCL vs' = false := fun hany => by simpa [hasSlCL] using hb hany
    have key : ∃ u us', us = u :: us' ∧ Zab.frzF vs' = some us' ∧ ((∃ c cs, v = .op (c :: cs) ∧ u = .el (c :: cs) 0) ∨ (∃ cs n sz, v = .os cs n sz ∧ u = .sl cs n) ∨ (v.flat = true ∧ u = v)) := by
      unfold Zab.frzF at hf
      split at hf
      · rename_i hh; cases hh
      · rename_i c0 cs r' hh
        cases hh
        split at hf <;> first | (cases hf; done) | skip
        rename_i vs'' hp
        cases hf
        exact ⟨_, _, rfl, hp, .inl ⟨_, _, rfl, rfl⟩⟩
      · rename_i cs n sz r' hh
        cases hh
        split at hf <;> first | (cases hf; done) | skip
        rename_i vs'' hp
        cases hf
        exact ⟨_, _, rfl, hp, .inr (.inl ⟨_, _, _, rfl, rfl⟩)⟩
      · rename_i y r' hx hx2 hh
        cases hh
        cases hfl : v.flat
        · simp [hfl] at hf
        · simp only [hfl, cond_true] at hf
          split at hf <;> first | (cases hf; done) | skip
          rename_i vs'' hp
          cases hf
          exact ⟨_, _, rfl, hp, .inr (.inr ⟨rfl, rfl⟩)⟩
    obtain ⟨u, us', rfl, hp, hu⟩ := key
    obtain ⟨i1, i2⟩ := B.frzF np' A2 K2 h2 hp (fun x hx => hF x (List.mem_append_right _ hx)) (fun hany => (hbare hany).2)
    refine ⟨by simp [i1], fun j p q cv hv => ?_⟩
    cases j with
    | succ j => exact i2 j (by simpa using p) (by simpa using q) cv (by simpa using hv)
    | zero =>
      simp only [List.getElem_cons_zero] at hv ⊢
      rcases hu with ⟨c0, cs, rfl, rfl⟩ | ⟨cs, n, sz, rfl, rfl⟩ | ⟨hfl, rfl⟩
      · -- a variable
        cases x
        case rf d off =>
          cases off with
          | succ k => simp [gath1] at h1
          | zero =>
            simp only [gath1, Bool.cond_eq_ite] at h1
            split at h1 <;> first | (cases h1; done) | skip
            rename_i hr
            split at h1 <;> first | (cases h1; done) | skip
            rename_i cs' hl
            cases h1
            have hp := vrep_rf (.one hv)
            subst hp
            have hrow := (B.R'.row d _ hl).flat (by simpa using hr)
            have hk : 0 < K' d := by have := hrow.le; simp at this; omega
            obtain ⟨cc, e, h1, h2, h3⟩ := hrow.list hk
            have hlen := hrow.le
            have key := V1.el (E := C.E) (np := np') (w := w') (N := B.N F) (A := A2) (K := K2) (c0 :: cs) 0 (A' d) 0 (fun j => cc.getD j undef) (.inr (.inr ⟨d, hF d (by simp), ⟨by rw [hl]; simp, hk⟩, rfl⟩)) (fun j hj => by
              rw [Nat.zero_add, cell_of h1]
              simp [show j < cc.length by omega]) (fun j hj => by
              have hj2 : j < (cc.take (c0 :: cs).length).length := by simp; simp at hj; simp at hlen; omega
              have := B.conv (F := F) (fun hany => hasSlL_of (by simpa [hasSlC] using (hbare hany).1) j hj) (h3.2 j hj hj2)
              simp only [List.getElem_take] at this
              simpa [show j < cc.length by omega] using this)
            simpa using key
        case rs e off m sz' => cases off <;> simp only [gath1, Bool.cond_eq_ite] at h1 <;> first | (cases h1; done) | (split at h1 <;> first | (cases h1; done) | (split at h1 <;> cases h1))
        all_goals (simp only [gath1, AV.flat, cond_true, cond_false] at h1; cases h1)
      · -- a slice
        cases x
        case rs e off m sz' =>
          cases off with
          | succ k => simp [gath1] at h1
          | zero =>
            simp only [gath1, Bool.cond_eq_ite] at h1
            split at h1 <;> first | (cases h1; done) | skip
            rename_i hr
            split at h1 <;> first | (cases h1; done) | skip
            rename_i cs' hl
            cases h1
            have := B.slice (F := F) (off := 0) (m := cs.length) hl (by simpa using hr) (hF e (by simp)) (fun hany => by simpa [hasSlC] using (hbare hany).1) hv
            exact .flat (by simpa using this)
        case rf e off => cases off <;> simp only [gath1, Bool.cond_eq_ite] at h1 <;> first | (cases h1; done) | (split at h1 <;> first | (cases h1; done) | (split at h1 <;> cases h1))
        all_goals (simp only [gath1, AV.flat, cond_true, cond_false] at h1; cases h1)
      · cases x
        case rs e off m sz' => cases off <;> simp only [gath1, Bool.cond_eq_ite] at h1 <;> first | (cases h1; done) | (split at h1 <;> first | (cases h1; done) | (split at h1 <;> first | (cases h1; done) | (cases h1; cases hfl)))
        case rf e off => cases off <;> simp only [gath1, Bool.cond_eq_ite] at h1 <;> first | (cases h1; done) | (split at h1 <;> first | (cases h1; done) | (split at h1 <;> first | (cases h1; done) | (cases h1; cases hfl)))
        all_goals
          simp only [gath1, AV.flat, cond_true, cond_false] at h1
          first
          | (cases h1; done)
          | (simp only [Option.some.injEq, Prod.mk.injEq] at h1
             obtain ⟨rfl, rfl⟩ := h1
             first
             | (cases hfl; done)
             | exact .flat (B.conv (fun hany => hasSlC_flat (hbare hany).1 rfl) (hv.ofF rfl)))

/-- A RESULT, BY VALUE. -/
theorem Back.comp (B : Back mv C A K S a w as vs ds ch nt A' K' S' a' w') {F : List Nat} {raw v u : AV} {h s : List Nat} {cv : Value} (hr : RetOf vs.length S'.l raw v h s) (hv : VRep C.E vs.length w' (Still (calC mv C A K S.l w as (ds ++ ch) vs.length nt) A' K' S'.l w') A' K' raw cv)
    (hu : fromRet1 v = some u) (hh : ∀ x ∈ h, x ∈ F) (hs : ∀ x ∈ s, x ∈ F) (hb : anyRs mv as = true → hasSl2 v = false) (np' : Nat) (A2 K2 : Nat → Nat) : V1 C.E np' w' (B.N F) A2 K2 u cv := by
  cases hr with
  | own d n sz m cs hl hr hd =>
    simp only [fromRet1, Option.some.injEq] at hu
    subst hu
    cases hv with
    | one hv =>
      have := B.slice (F := F) (off := 0) (m := m) hl hr (hh d (by simp)) (fun hany => by simpa [hasSl2] using hb hany) hv
      exact .flat (by simpa using this)
  | view d off n sz cs hl hr hd hle =>
    simp only [fromRet1, Option.some.injEq] at hu
    subst hu
    cases hv with
    | one hv => 
      cases hany : anyRs mv as
      · exact .flat (B.slice (F := F) hl hr (hs d (by simp)) (fun h => by rw [hany] at h; cases h) hv)
      · have := hb hany; simp [hasSl2, hasSl1] at this
  | ptr d cs hl hr hd =>
    cases cs with
    | nil => simp [fromRet1] at hu
    | cons c cs =>
      simp only [fromRet1, Option.some.injEq] at hu
      subst hu
      have hp := vrep_rf hv
      subst hp
      have hrow := (B.R'.row d _ hl).flat hr
      have hk : 0 < K' d := by have := hrow.le; simp at this; omega
      obtain ⟨cc, e, h1, h2, h3⟩ := hrow.list hk
      have hlen := hrow.le
      have key := V1.el (E := C.E) (np := np') (w := w') (N := B.N F) (A := A2) (K := K2) (c :: cs) 0 (A' d) 0 (fun j => cc.getD j undef) (.inr (.inr ⟨d, hh d (by simp), ⟨by rw [hl]; simp, hk⟩, rfl⟩)) (fun j hj => by
        rw [Nat.zero_add, cell_of h1]
        simp [show j < cc.length by omega]) (fun j hj => by
        have hj2 : j < (cc.take (c :: cs).length).length := by simp; simp at hj; simp at hlen; omega
        have := B.conv (F := F) (fun hany => hasSlL_of (by simpa [hasSl2] using hb hany) j hj) (h3.2 j hj hj2)
        simp only [List.getElem_take] at this
        simpa [show j < cc.length by omega] using this)
      simpa using key
  | ref d cs c ch' => simp [fromRet1] at hu
  | aq cs c ch' hg =>
    simp only [fromRet1, Option.map_eq_some_iff] at hu
    obtain ⟨us, hus, rfl⟩ := hu
    obtain ⟨l, rfl, h2, h3, h4⟩ := vrep_aq hv
    obtain ⟨f1, f2⟩ := B.frzP (F := F) hg hus hh (fun hany => by simpa [hasSl2] using hb hany)
    exact .ag us l (by omega) fun j p q => f2 j (by omega) p _ (h4 j (by omega) q)
  | fn f x cs c ch' hg =>
    have hc : c ≠ [] := by
      intro e; subst e
      obtain ⟨v, i, vs', js, _, _, h3, _⟩ := gathL_cons hg
      cases h3
    cases c with
    | nil => exact absurd rfl hc
    | cons c cs => simp [fromRet1] at hu
  | fn0 f =>
    simp only [fromRet1, Option.some.injEq] at hu
    subst hu
    obtain ⟨l, rfl, hl, _⟩ := vrep_fn hv
    have : l = [] := by cases l <;> simp_all
    subst this
    exact .fn f
  | val _ hx =>
    rcases hx with hx | ⟨cs, rfl⟩ | ⟨cs, j, rfl⟩
    · have : u = raw := by
        revert hu
        cases raw <;> first | (cases hx; done) | (intro hu; simp only [fromRet1, Option.some.injEq] at hu; exact hu.symm)
      subst this
      exact .flat (B.conv (fun hany => by have := hb hany; cases u <;> first | (cases hx; done) | exact this) (vrep_flat hv hx))
    · simp only [fromRet1, Option.some.injEq] at hu
      subst hu
      obtain ⟨l, rfl, hr⟩ := vrep_agL hv
      cases hany : anyRs mv as
      · exact .ag cs l hr.1 fun j p q => (hr.2 j p q).mono (fun b hb => .inr (.inl ⟨hany, hb⟩)) (fun _ _ => rfl)
      · have := hb hany; simp [hasSl2, hasSl1] at this
    · simp only [fromRet1, Option.some.injEq] at hu
      subst hu
      obtain ⟨blk, off, f, rfl, hN, hc, h1⟩ := vrep_el hv
      cases hany : anyRs mv as
      · exact .el cs j blk off f (.inr (.inl ⟨hany, hN⟩)) hc fun i p => (h1 i p).mono (fun b hb => .inr (.inl ⟨hany, hb⟩)) (fun _ _ => rfl)
      · have := hb hany; simp [hasSl2, hasSl1] at this

end
end Zab

namespace Zab
open Go
set_option linter.unusedSimpArgs false
set_option linter.unusedVariables false

theorem noRoots_of {np : Nat} : ∀ {l : List Nat}, noRoots np l = true → ∀ x ∈ l, rootB np x = false
  | [], _, x, h => by cases h
  | y :: r, h, x, hx => by
    simp only [noRoots, Bool.and_eq_true, Bool.not_eq_true'] at h
    rcases List.mem_cons.1 hx with rfl | hx
    · exact h.1
    · exact noRoots_of h.2 x hx
theorem apart_of {l : List Nat} : ∀ {m : List Nat}, apart l m = true → ∀ x ∈ m, x ∉ l
  | [], _, x, h => by cases h
  | y :: r, h, x, hx => by
    simp only [apart, Bool.and_eq_true, Bool.not_eq_true'] at h
    rcases List.mem_cons.1 hx with rfl | hx
    · intro hm
      rw [← memb_iff] at hm; rw [hm] at h; cases h.1
    · exact apart_of h.2 x hx

theorem rowsL_child {E : Nat} : ∀ {g : List AV} {o : Nat}, ∀ p ∈ rowsL E o g, ∃ k, p.1 = child E k
  | [], o, p, h => by simp [rowsL] at h
  | x :: r, o, p, h => by
    simp only [rowsL, List.mem_append] at h
    rcases h with h | h
    · cases x <;> simp only [rows1, List.mem_singleton, List.not_mem_nil] at h
      all_goals (subst h; exact ⟨o, rfl⟩)
    · exact rowsL_child p h

theorem putRows_append : ∀ (r1 r2 l : List (Nat × List AV)), putRows l (r1 ++ r2) = putRows (putRows l r1) r2
  | [], _, _ => rfl
  | (d, cs) :: r, r2, l => putRows_append r r2 _

section
variable {mv : List Nat} {C : Ctx} {A K : Nat → Nat} {S : St} {a : Act} {w : World} {as vs : List AV} {ds ch : List Nat} {nt : Nat} {A' K' : Nat → Nat} {S' : St} {a' : Act} {w' : World}

/-- A result that becomes the caller's own. -/
theorem Back.take (B : Back mv C A K S a w as vs ds ch nt A' K' S' a' w') {F : List Nat} {U : Nat → Prop} {A1 K1 : Nat → Nat} {S1 : St} (R1 : RelN C A1 K1 S1 a w' (B.N F)) (hs : Sep A K (S.without (ds ++ ch)).l A' K' S'.l U A1 K1 S1.l)
    {raw v u : AV} {h s : List Nat} {cv : Value} {rows : List (Nat × List AV)} {D : Nat} (hr : RetOf vs.length S'.l raw v h s) (hv : VRep C.E vs.length w' (Still (calC mv C A K S.l w as (ds ++ ch) vs.length nt) A' K' S'.l w') A' K' raw cv)
    (hD : C.np ≤ D ∧ D < 1000000) (ht : take1 D v = some (u, rows)) (hkn : (keys rows).Nodup) (hnd : h.Nodup) (hU : ∀ x ∈ h, ¬ U x) (hF : rows ≠ [] → ∀ x ∈ h, x ∉ F) (hF2 : rows = [] → ∀ x ∈ h, x ∈ F) (hsF : ∀ x ∈ s, x ∈ F)
    (hb : anyRs mv as = true → hasSl2 v = false) :
    ∃ A2 K2, Rel C A2 K2 (S1.takeRows rows) a w' ∧ (∀ b, B.N F b → Still C A2 K2 (S1.takeRows rows).l w' b) ∧ VRep C.E C.np w' (B.N F) A2 K2 u cv := by
  have Rk := R1.kills (keys rows)
  have sk : Sep A K (S.without (ds ++ ch)).l A' K' S'.l U A1 K1 (S1.kills (keys rows)).l := fun e he => hs e (kills_live _ _ he)
  have free : ∀ e ∈ keys rows, Free (S1.kills (keys rows)) e := fun e he => Free.kills _ _ he
  -- children, of cells that were gathered
  have kids : ∀ {E : Nat} {cs c : List AV} {is : List Nat} {rest : List (Nat × List AV)}, gathL S'.l cs = some (c, is) → rows = rowsL E 0 c ++ rest → (∀ x ∈ is, x ∈ h) → is.Nodup → allCh (keys (rowsL E 0 c)) = true → (anyRs mv as = true → hasSlCL c = false) →
      ∃ A2 K2, RelN C A2 K2 { (S1.kills (keys rows)) with l := putRows (S1.kills (keys rows)).l (rowsL E 0 c) } a w' (B.N F) ∧ Sep A K (S.without (ds ++ ch)).l A' K' S'.l (fun y => U y ∨ y ∈ is) A2 K2 (putRows (S1.kills (keys rows)).l (rowsL E 0 c)) ∧
        (∀ D' x, (D', x) ∈ pC E 0 cs → A2 D' = A' x ∧ K2 D' = K' x) ∧ (∀ D' ∈ keys (rowsL E 0 c), rootB C.np D' = false) ∧ RenL (pC E 0 cs) (keys (rowsL E 0 c)) cs (scatL E 0 c) ∧ (∀ e ∈ keys rest, Free { (S1.kills (keys rows)) with l := putRows (S1.kills (keys rows)).l (rowsL E 0 c) } e) := by
    intro E cs c is rest hg hrows his hisn hall hbare
    obtain ⟨g1, g2, g3, g4⟩ := gathL_of (E := E) (o := 0) hg
    have hsub : ∀ e ∈ keys (rowsL E 0 c), e ∈ keys rows := fun e he => by rw [hrows, keys_append]; exact List.mem_append_left _ he
    have hkn' : (keys (rowsL E 0 c)).Nodup := by rw [hrows, keys_append] at hkn; exact (List.nodup_append.1 hkn).1
    have hch : ∀ e ∈ keys (rowsL E 0 c), chB e = true := allCh_of hall
    have hT1 : ((pC E 0 cs).map (·.1)).Nodup := by rw [g2]; exact hkn'
    have hT2 : ((pC E 0 cs).map (·.2)).Nodup := by rw [g1]; exact hisn
    have hTx : ∀ D' x, (D', x) ∈ pC E 0 cs → x ∈ is := fun D' x hx => by rw [← g1]; exact List.mem_map.2 ⟨_, hx, rfl⟩
    have hTk : ∀ D' x, (D', x) ∈ pC E 0 cs → D' ∈ keys (rowsL E 0 c) := fun D' x hx => by rw [← g2]; exact List.mem_map.2 ⟨_, hx, rfl⟩
    have hne : ∀ p ∈ rowsL E 0 c, rows ≠ [] := fun p hp e => by rw [e] at hrows; have := (List.append_eq_nil_iff.1 hrows.symm).1; rw [this] at hp; cases hp
    obtain ⟨A2, K2, R2, s2, q1, q2, q3⟩ := B.adds hT1 hT2 (rowsL E 0 c) Rk sk (fun p hp => .inl ⟨free _ (hsub _ (keys_mem.2 ⟨p.2, hp⟩)), hch _ (keys_mem.2 ⟨p.2, hp⟩)⟩) hkn' (fun p hp => by
      obtain ⟨x, x1, x2, x3⟩ := g4 p hp
      have hxh := his x (hTx _ _ x1)
      exact ⟨x, x1, ⟨fun hk => ⟨by rw [x2]; simp, hk⟩, hF (hne p hp) x hxh, hU x hxh⟩, B.convRow (fun hany => rowsL_bare (hbare hany) p hp) ((B.R'.row x p.2 x2).flat x3)⟩)
    refine ⟨A2, K2, R2, fun e he => ?_, fun D' x hx => q2 D' (hTk D' x hx) x hx, fun D' hD' => ch_own B.R.npl (hch D' hD'), g3, fun e he => ?_⟩
    · rcases s2 e he with h | ⟨y, h | ⟨D', _, h⟩, h2⟩
      · exact .inl h
      · exact .inr ⟨y, .inl h, h2⟩
      · exact .inr ⟨y, .inr (hTx _ _ h), h2⟩
    · refine q3 e (fun h => ?_) (free e (by rw [hrows, keys_append]; exact List.mem_append_right _ he))
      rw [hrows, keys_append] at hkn
      exact (List.nodup_append.1 hkn).2.2 e h e he rfl
  -- nothing is taken
  have none : ∀ {u' : AV}, fromRet1 v = some u' → u = u' → rows = [] → ∃ A2 K2, Rel C A2 K2 (S1.takeRows rows) a w' ∧ (∀ b, B.N F b → Still C A2 K2 (S1.takeRows rows).l w' b) ∧ VRep C.E C.np w' (B.N F) A2 K2 u cv := by
    rintro u' hu rfl rfl
    exact ⟨A1, K1, R1.rel, R1.sub, .one (B.comp hr hv hu (hF2 rfl) hsF hb _ _ _)⟩
  -- one row
  have single : ∀ {d m : Nat} {cs : List AV}, look S'.l d = some cs → isRef d = false → d ∈ h → rows = [(D, cs.take m)] → (anyRs mv as = true → hasSlL (cs.take m) = false) →
      ∃ A2 K2, Rel C A2 K2 (S1.takeRows rows) a w' ∧ (∀ b, B.N F b → Still C A2 K2 (S1.takeRows rows).l w' b) ∧ A2 D = A' d ∧ K2 D = K' d := by
    rintro d m cs hl hrf hd rfl hbare
    have hDf := slot_flat hD.2
    obtain ⟨R2, s2⟩ := B.add Rk sk (D := D) (x := d) (cs := cs.take m) (free D (by simp [keys])) (slot_own hD) ⟨fun hk => ⟨by rw [hl]; simp, hk⟩, hF (by simp) d hd, hU d hd⟩ ⟨fun _ => B.convRow hbare (row_take m ((B.R'.row d cs hl).flat hrf)), fun h => (by rw [hDf] at h; cases h)⟩
    exact ⟨_, _, R2.rel, R2.sub, by rw [upd_same], by rw [upd_same]⟩
  cases hr with
  | own d n sz m cs hl hrf hd =>
    simp only [take1, Option.some.injEq, Prod.mk.injEq] at ht
    obtain ⟨rfl, rfl⟩ := ht
    obtain ⟨A2, K2, R2, N2, q1, q2⟩ := single hl hrf (by simp) rfl (fun hany => by simpa [hasSl2] using hb hany)
    obtain ⟨base, c, rfl, _, hn, hk, hb0⟩ := vrep_rs hv
    exact ⟨A2, K2, R2, N2, .one (.rs D 0 n sz base c (slot_own hD) hn (by rw [q2]; exact hk) (by rw [q1, q2]; exact hb0))⟩
  | view d off n sz cs hl hrf hd hle =>
    simp only [take1, fromRet1, Option.some.injEq, Prod.mk.injEq] at ht
    exact none (u' := .sl ((cs.drop off).take (n * sz)) n) rfl ht.1.symm ht.2.symm
  | ptr d cs hl hrf hd =>
    simp only [take1, Option.some.injEq, Prod.mk.injEq] at ht
    obtain ⟨rfl, rfl⟩ := ht
    obtain ⟨A2, K2, R2, N2, q1, q2⟩ := single (m := cs.length) hl hrf (by simp) (by rw [List.take_length]) (fun hany => by rw [List.take_length]; simpa [hasSl2] using hb hany)
    exact ⟨A2, K2, R2, N2, VRep.rfv (by rw [q1]; exact vrep_rf hv)⟩
  | ref d cs c ch' hl hrf hd hg =>
    simp only [take1] at ht
    cases hall : allCh (keys (rowsL (1000000000000 + D) 0 c))
    · simp [hall] at ht
    simp only [hall, cond_true, Option.some.injEq, Prod.mk.injEq] at ht
    obtain ⟨rfl, hrows⟩ := ht
    have hbare : anyRs mv as = true → hasSlCL c = false := fun hany => by simpa [hasSl2] using hb hany
    simp only [List.nodup_cons] at hnd
    obtain ⟨A2, K2, R2, s2, q1, q2, q3, q4⟩ := kids (E := 1000000000000 + D) hg hrows.symm (fun x hx => List.mem_cons_of_mem _ hx) hnd.2 hall hbare
    have hne : rows ≠ [] := by rw [← hrows]; simp
    have hrow := (B.R'.row d cs hl).ref hrf
    have hnk : 1000000000000 + D ∉ keys (rowsL (1000000000000 + D) 0 c) := fun h => by
      rw [← hrows, keys_append] at hkn
      exact (List.nodup_append.1 hkn).2.2 _ h _ (by simp [keys]) rfl
    obtain ⟨R3, s3⟩ := B.add R2 s2 (D := 1000000000000 + D) (x := d) (cs := scatL (1000000000000 + D) 0 c) (q4 _ (by simp [keys])) (slot_ownQ hD) ⟨fun hk => ⟨by rw [hl]; simp, hk⟩, hF hne d (by simp), fun h => by
      rcases h with h | h
      · exact hU d (by simp) h
      · exact hnd.1 h⟩ ⟨fun h => (by rw [slot_ref] at h; cases h), fun _ => B.convRowQ (fun D' x hx => by
      have hDk : D' ∈ keys (rowsL (1000000000000 + D) 0 c) := by
        obtain ⟨_, g2, _⟩ := gathL_of (E := 1000000000000 + D) (o := 0) hg
        rw [← g2]; exact List.mem_map.2 ⟨_, hx, rfl⟩
      have hne' : D' ≠ 1000000000000 + D := fun e => hnk (e ▸ hDk)
      obtain ⟨p1, p2⟩ := q1 D' x hx
      exact ⟨by rw [upd_other _ _ _ hne']; exact p1, by rw [upd_other _ _ _ hne']; exact p2⟩) q2 q3 (fun hany => gathL_bare hg (hbare hany)) hrow⟩
    have e1 : (S1.takeRows rows) = { (S1.kills (keys rows)) with l := put (putRows (S1.kills (keys rows)).l (rowsL (1000000000000 + D) 0 c)) (1000000000000 + D) (scatL (1000000000000 + D) 0 c) } := by
      show ({ (S1.kills (keys rows)) with l := putRows (S1.kills (keys rows)).l rows } : St) = _
      rw [← hrows, putRows_append]; rfl
    rw [e1]
    exact ⟨_, _, R3.rel, R3.sub, VRep.rfv (by rw [upd_same]; exact vrep_rf hv)⟩
  | aq cs c ch' hg =>
    simp only [take1] at ht
    cases hall : allCh (keys (rowsL D 0 c))
    · simp [hall] at ht
    simp only [hall, cond_true, Option.some.injEq, Prod.mk.injEq] at ht
    obtain ⟨rfl, rfl⟩ := ht
    have hbare : anyRs mv as = true → hasSlCL c = false := fun hany => by simpa [hasSl2] using hb hany
    obtain ⟨A2, K2, R2, s2, q1, q2, q3, q4⟩ := kids (E := D) (rest := []) hg (by simp) (fun x hx => hx) hnd hall hbare
    obtain ⟨l, rfl, h2, h3, h4⟩ := vrep_aq hv
    refine ⟨A2, K2, R2.rel, R2.sub, .aq _ l (by rw [← q3.1]; exact h2) h3 fun j p q => ?_⟩
    exact B.convQ q1 q2 (q3.2 j (by omega) p) (fun hany hf => gathL_bare hg (hbare hany) _ (List.getElem_mem _) hf) (h4 j (by omega) q)
  | fn f x cs c ch' hg =>
    have hc : c ≠ [] := by
      intro e; subst e
      obtain ⟨v, i, vs', js, _, _, h3, _⟩ := gathL_cons hg
      cases h3
    cases c with
    | nil => exact absurd rfl hc
    | cons c0 c =>
      simp only [take1] at ht
      cases hall : allCh (keys (rowsL D 0 (c0 :: c)))
      · simp [hall] at ht
      simp only [hall, cond_true, Option.some.injEq, Prod.mk.injEq] at ht
      obtain ⟨rfl, rfl⟩ := ht
      have hbare : anyRs mv as = true → hasSlCL (c0 :: c) = false := fun hany => by simpa [hasSl2] using hb hany
      obtain ⟨A2, K2, R2, s2, q1, q2, q3, q4⟩ := kids (E := D) (rest := []) hg (by simp) (fun x hx => hx) hnd hall hbare
      obtain ⟨l, rfl, h2, h4⟩ := vrep_fn hv
      refine ⟨A2, K2, R2.rel, R2.sub, .fn f _ l (by rw [← q3.1]; exact h2) fun j p q => ?_⟩
      exact B.convQ q1 q2 (q3.2 j (by omega) p) (fun hany hf => gathL_bare hg (hbare hany) _ (List.getElem_mem _) hf) (h4 j (by omega) q)
  | fn0 f =>
    simp only [take1, fromRet1, Option.some.injEq, Prod.mk.injEq] at ht
    exact none (u' := .fn f []) rfl ht.1.symm ht.2.symm
  | val _ hx =>
    have hu : ∃ u', fromRet1 raw = some u' ∧ u = u' ∧ rows = [] := by
      rcases hx with hx | ⟨cs, rfl⟩ | ⟨cs, j, rfl⟩
      · cases raw <;> first | (cases hx; done) | (simp only [take1, fromRet1, Option.some.injEq, Prod.mk.injEq] at ht; exact ⟨_, rfl, ht.1.symm, ht.2.symm⟩)
      · simp only [take1, fromRet1, Option.some.injEq, Prod.mk.injEq] at ht; exact ⟨_, rfl, ht.1.symm, ht.2.symm⟩
      · simp only [take1, fromRet1, Option.some.injEq, Prod.mk.injEq] at ht; exact ⟨_, rfl, ht.1.symm, ht.2.symm⟩
    obtain ⟨u', h1, h2, h3⟩ := hu
    exact none h1 h2 h3

theorem Rets.sroot {np : Nat} {l : List (Nat × List AV)} {xs vs : List AV} {h s : List Nat} (hr : Rets np l xs vs h s) : ∀ x ∈ s, rootB np x = false := by
  induction hr with
  | nil => intro x hx; cases hx
  | cons x v h s xs vs hs ss h1 h2 ih =>
    intro y hy
    rcases List.mem_append.1 hy with hy | hy
    · cases h1 with
      | view d off n sz cs hl hr hd hle => simp only [List.mem_singleton] at hy; subst hy; exact hd
      | _ => cases hy
    · exact ih y hy

/-- All that a call gives back. -/
structure Done (mv : List Nat) (C : Ctx) (A K : Nat → Nat) (S : St) (a : Act) (w : World) (as vs : List AV) (ds ch : List Nat) (nt : Nat) (A' K' : Nat → Nat) (S' : St) (a' : Act) (w' : World) (raws rs : List AV) (cvs : List Value) (lent : List (List AV)) (h s h' : List Nat) (S1 : St) : Prop where
  B : Back mv C A K S a w as vs ds ch nt A' K' S' a' w'
  len : raws.length = cvs.length
  reps : ∀ j (h1 : j < raws.length) (h2 : j < cvs.length), VRep C.E vs.length w' (Still (calC mv C A K S.l w as (ds ++ ch) vs.length nt) A' K' S'.l w') A' K' raws[j] cvs[j]
  rets : toRets vs.length S'.l raws raws = some (rs, h, s)
  lents : lentOf S'.l 0 vs = some (lent, h')
  ok : okFin vs.length (h ++ h') s = true
  bare : anyRs mv as = true → hasSl (one rs) = false ∧ hasSlLL lent = false
  aft : afterK S ds ch lent = some S1

variable {raws rs : List AV} {cvs : List Value} {lent : List (List AV)} {h s h' : List Nat} {S1 : St}

theorem Done.facts (Q : Done mv C A K S a w as vs ds ch nt A' K' S' a' w' raws rs cvs lent h s h' S1) : h.Nodup ∧ h'.Nodup ∧ (∀ x ∈ h, x ∉ h') ∧ (∀ x ∈ s, x ∉ h ∧ x ∉ h') ∧ (∀ x ∈ h, rootB vs.length x = false) ∧ (∀ x ∈ h', rootB vs.length x = false) ∧ (∀ x ∈ s, rootB vs.length x = false) := by
  have := Q.ok
  simp only [okFin, Bool.and_eq_true, nodupB_iff] at this
  obtain ⟨h1, h2, h3⟩ := this
  obtain ⟨n1, n2, n3⟩ := List.nodup_append.1 h1
  have nr := noRoots_of h2
  have ap := apart_of h3
  refine ⟨n1, n2, fun x hx hx' => n3 x hx x hx' rfl, fun x hx => ?_, fun x hx => nr x (List.mem_append_left _ hx), fun x hx => nr x (List.mem_append_right _ hx), (toRets_of Q.rets).sroot⟩
  have := ap x hx
  simp only [List.mem_append, not_or] at this
  exact this

/-- .. with rows that nobody writes any more. -/
theorem Done.after (Q : Done mv C A K S a w as vs ds ch nt A' K' S' a' w' raws rs cvs lent h s h' S1) {F : List Nat} (hF : ∀ x ∈ F, x ∈ h ∨ x ∈ s) :
    ∃ A1 K1, RelN C A1 K1 S1 a w' (Q.B.N F) ∧ Sep A K (S.without (ds ++ ch)).l A' K' S'.l (fun y => y ∈ h' ∨ rootB vs.length y = true) A1 K1 S1.l := by
  obtain ⟨f1, f2, f3, f4, f5, f6, f7⟩ := Q.facts
  refine Q.B.after Q.lents (fun hany => (Q.bare hany).2) f2 (fun x hx hxF => ?_) f6 (fun x hx => ?_) Q.aft
  · rcases hF x hxF with hh | hh
    · exact f3 x hh hx
    · exact (f4 x hh).2 hx
  · rcases hF x hx with hh | hh
    · exact f5 x hh
    · exact f7 x hh

theorem fromRet_one {x v : AV} (hnt : ∀ l, x ≠ .tp l) (hfn : ¬ ∃ f c r, x = .fn f (c :: r)) (hv : fromRet x = some v) : fromRet1 x = some v := by
  unfold fromRet at hv
  split at hv
  · exact absurd rfl (hnt _)
  · exact absurd ⟨_, _, _, rfl⟩ hfn
  · exact hv

/-- A whole result, by value. -/
theorem Done.byValue (Q : Done mv C A K S a w as vs ds ch nt A' K' S' a' w' raws rs cvs lent h s h' S1) {v : AV} (hv : fromRet (one rs) = some v) :
    ∃ A1 K1, Rel C A1 K1 S1 a w' ∧ VRep C.E C.np w' (Still C A1 K1 S1.l w') A1 K1 v (oneV cvs) := by
  obtain ⟨A1, K1, R1, s1⟩ := Q.after (F := h ++ s) (fun x hx => List.mem_append.1 hx)
  have hr := toRets_of Q.rets
  have hlen := Q.len
  have hreps := Q.reps
  have hgl := hr.get
  refine ⟨A1, K1, R1.rel, VRep.mono R1.sub (fun _ _ => rfl) (fun _ _ => ⟨rfl, rfl⟩) ?_⟩
  rcases one_cases rs with ⟨x, rfl, h1⟩ | ⟨hne, h1⟩
  · have hb := fun hany => (Q.bare hany).1
    rw [h1] at hv hb
    match raws, cvs, hgl.1, hlen, hreps, hgl.2 with
    | [raw], [cv], _, _, hreps, hg =>
      obtain ⟨hj, sj, r1, r2, r3⟩ := hg 0 (by simp) (by simp)
      have hp := hreps 0 (by simp) (by simp)
      simp only [List.getElem_cons_zero] at r1 hp
      have hnt := r1.notTp
      by_cases hfn : ∃ f c r, x = .fn f (c :: r)
      · obtain ⟨f, c0, r, rfl⟩ := hfn
        simp only [fromRet, Option.map_eq_some_iff] at hv
        obtain ⟨us, hus, rfl⟩ := hv
        cases r1 with
        | fn f x cs c ch' hg =>
          obtain ⟨l, rfl, h2, h4⟩ := vrep_fn hp
          obtain ⟨f1, f2⟩ := Q.B.frzF (F := h ++ s) C.np A1 K1 hg hus (fun y hy => List.mem_append_left _ (r2 y hy)) (fun hany => by simpa [hasSl, hasSl2] using hb hany)
          exact .fn f us l (by omega) fun j p q => f2 j (by omega) p _ (h4 j (by omega) q)
        | val _ hx => rcases hx with hx | ⟨cs, hx⟩ | ⟨cs, j, hx⟩ <;> cases hx
      have hv' : fromRet1 x = some v := fromRet_one hnt hfn hv
      have hb' : anyRs mv as = true → hasSl2 x = false := fun h => by have := hb h; cases x <;> first | exact this | exact absurd rfl (hnt _)
      exact .one (Q.B.comp r1 hp hv' (fun y hy => List.mem_append_left _ (r2 y hy)) (fun y hy => List.mem_append_right _ (r3 y hy)) hb' _ _ _)
  · have hb := fun hany => (Q.bare hany).1
    rw [h1] at hv hb
    have hl1 := hgl.1
    rw [oneV_many (by omega)]
    simp only [fromRet, Option.map_eq_some_iff] at hv
    obtain ⟨us, hus, rfl⟩ := hv
    obtain ⟨f1, f2⟩ := fromRetL_of hus
    refine .tp us cvs (by omega) fun j p q => ?_
    obtain ⟨hj, sj, r1, r2, r3⟩ := hgl.2 j (by omega) (by omega)
    exact Q.B.comp r1 (hreps j (by omega) q) (f2 j (by omega) p) (fun y hy => List.mem_append_left _ (r2 y hy)) (fun y hy => List.mem_append_right _ (r3 y hy)) (fun hany => hasSl2L_of (by simpa [hasSl] using hb hany) j (by omega)) _ _ _

theorem plain_V1 {E : Env} {np : Nat} {w : World} {N : Nat → Prop} {A K : Nat → Nat} {x : AV} {v : Value} (h : VRep E np w N A K x v) (hp : plain x = true) : V1 E np w N A K x v := h.ofPlain hp

/-- A RESULT, RECEIVED. -/
theorem Done.recv (Q : Done mv C A K S a w as vs ds ch nt A' K' S' a' w' raws rs cvs lent h s h' S1) {d : Nat} {own : List (Nat × Nat)} {S2 : St} {v : AV} (hd : C.np ≤ d ∧ d < 1000000) (hrc : Zab.recv S1 d own (one rs) = some (S2, v)) :
    ∃ A2 K2, Rel C A2 K2 S2 a w' ∧ VRep C.E C.np w' (Still C A2 K2 S2.l w') A2 K2 v (oneV cvs) := by
  have byV : (match fromRet (one rs) with | some v => some (S1, v) | none => none) = some (S2, v) → ∃ A2 K2, Rel C A2 K2 S2 a w' ∧ VRep C.E C.np w' (Still C A2 K2 S2.l w') A2 K2 v (oneV cvs) := by
    intro hh
    split at hh <;> first | (cases hh; done) | skip
    rename_i u hu
    cases hh
    exact Q.byValue hu
  obtain ⟨f1, f2, f3, f4, f5, f6, f7⟩ := Q.facts
  have hr := toRets_of Q.rets
  have hlen := Q.len
  have hreps := Q.reps
  have hb := fun hany => (Q.bare hany).1
  have hUh : ∀ x ∈ h, ¬ (x ∈ h' ∨ rootB vs.length x = true) := fun x hx hh => by
    rcases hh with hh | hh
    · exact f3 x hx hh
    · rw [f5 x hx] at hh; cases hh
  unfold Zab.recv at hrc
  split at hrc
  · exact byV hrc
  · -- a part of a tuple
    rename_i j sz own' l h77 hone
    have hrl : rs = l ∧ rs.length ≠ 1 := by
      rcases one_cases rs with ⟨x, rfl, h1⟩ | ⟨h0, h1⟩
      · have hg := hr.get
        obtain ⟨_, _, r1, _⟩ := hg.2 0 (by rw [hg.1]; simp) (by simp)
        rw [h1] at hone
        exact absurd hone (by simpa using r1.notTp l)
      · rw [h1] at hone; cases hone; exact ⟨rfl, h0⟩
    obtain ⟨rfl, hne⟩ := hrl
    split at hrc
    · rename_i x hx
      obtain ⟨hjl, rfl⟩ := List.getElem?_eq_some_iff.1 hx
      cases hsm : Nat.blt (d + 1000 * (j + 1)) 1000000
      · simp [hsm] at hrc
      simp only [hsm, cond_true] at hrc
      have hsm : d + 1000 * (j + 1) < 1000000 := by simpa using hsm
      split at hrc <;> first | (cases hrc; done) | skip
      rename_i u rows ht
      simp only [Bool.cond_eq_ite] at hrc
      split at hrc <;> first | (cases hrc; done) | skip
      rename_i hpl
      simp only [Bool.and_eq_true, nodupB_iff] at hpl
      split at hrc <;> first | (cases hrc; done) | skip
      rename_i us hus
      cases hrc
      have hgl := hr.get.1
      obtain ⟨hj, sj, hrest, r1, r2, r3, r4⟩ := hr.apart j (by omega) hjl
      have hnd := r2.nodup_iff.1 f1
      obtain ⟨n1, n2, n3⟩ := List.nodup_append.1 hnd
      have hmem : ∀ x, x ∈ h ↔ x ∈ hj ∨ x ∈ hrest := fun x => by rw [r2.mem_iff, List.mem_append]
      let F := (if rows = [] then h else hrest) ++ s
      have hFsub : ∀ x ∈ F, x ∈ h ∨ x ∈ s := fun x hx => by
        rcases List.mem_append.1 hx with hx | hx
        · by_cases hr0 : rows = []
          · rw [if_pos hr0] at hx; exact .inl hx
          · rw [if_neg hr0] at hx; exact .inl ((hmem x).2 (.inr hx))
        · exact .inr hx
      obtain ⟨A1, K1, R1, s1⟩ := Q.after hFsub
      have hbl := fun hany => hasSl2L_of (by have := hb hany; rw [hone] at this; simpa [hasSl] using this) 
      obtain ⟨A2, K2, R2, N2, V2⟩ := Q.B.take R1 s1 r1 (hreps j (by omega) (by omega)) (D := d + 1000 * (j + 1)) ⟨by omega, hsm⟩ ht hpl.2 n1 (fun x hx => hUh x ((hmem x).2 (.inl hx)))
        (fun hr0 x hx hxF => by
          rcases List.mem_append.1 hxF with hxF | hxF
          · rw [if_neg hr0] at hxF; exact n3 x hx x hxF rfl
          · exact (f4 x hxF).1 ((hmem x).2 (.inl hx)))
        (fun hr0 x hx => by
          refine List.mem_append_left _ ?_
          rw [if_pos hr0]; exact (hmem x).2 (.inl hx)) (fun x hx => List.mem_append_right _ (r3 x hx)) (fun hany => hbl hany j hjl)
      refine ⟨A2, K2, R2, VRep.mono N2 (fun _ _ => rfl) (fun _ _ => ⟨rfl, rfl⟩) ?_⟩
      rw [oneV_many (by omega)]
      obtain ⟨g1, g2⟩ := fromRetL_of hus
      simp only [List.length_set] at g1
      refine .tp _ cvs (by simp; omega) fun i p q => ?_
      simp only [List.length_set] at p
      by_cases hij : j = i
      · subst hij
        simp only [List.getElem_set_self]
        exact V2.ofPlain hpl.1
      · simp only [List.getElem_set_ne hij]
        obtain ⟨hi', si, t1, t2, t3⟩ := r4 i (by omega) (by omega) (fun e => hij e.symm)
        have hf := g2 i (by simp; omega) p
        simp only [List.getElem_set_ne hij] at hf
        refine Q.B.comp t1 (hreps i (by omega) q) hf (fun y hy => List.mem_append_left _ ?_) (fun y hy => List.mem_append_right _ (t3 y hy)) (fun hany => hbl hany i (by omega)) _ _ _
        by_cases hr0 : rows = []
        · rw [if_pos hr0]; exact (hmem y).2 (.inr (t2 y hy))
        · rw [if_neg hr0]; exact t2 y hy
    · exact byV (by rw [hone]; exact hrc)
  · -- a result alone
    rename_i p own' v' hn1 hn2
    split at hrc <;> first | (cases hrc; done) | skip
    rename_i u rows ht
    simp only [Bool.cond_eq_ite] at hrc
    split at hrc <;> first | (cases hrc; done) | skip
    rename_i hkn
    cases hrc
    rw [nodupB_iff] at hkn
    rcases one_cases rs with ⟨x, rfl, h1⟩ | ⟨hne, h1⟩
    · rw [h1] at ht hb
      match raws, cvs, hr.get.1, hlen, hreps, hr with
      | [raw], [cv], _, _, hreps, hr =>
        obtain ⟨hj, sj, hrest, r1, r2, r3, r4⟩ := hr.apart 0 (by simp) (by simp)
        have hp := hreps 0 (by simp) (by simp)
        simp only [List.getElem_cons_zero] at r1 hp
        have hnd := r2.nodup_iff.1 f1
        obtain ⟨n1, n2, n3⟩ := List.nodup_append.1 hnd
        have hmem : ∀ x, x ∈ hj → x ∈ h := fun x hx => by rw [r2.mem_iff]; exact List.mem_append_left _ hx
        let F := (if rows = [] then h else []) ++ s
        have hFsub : ∀ x ∈ F, x ∈ h ∨ x ∈ s := fun x hx => by
          rcases List.mem_append.1 hx with hx | hx
          · by_cases hr0 : rows = []
            · rw [if_pos hr0] at hx; exact .inl hx
            · rw [if_neg hr0] at hx; cases hx
          · exact .inr hx
        obtain ⟨A1, K1, R1, s1⟩ := Q.after hFsub
        have hnt := r1.notTp
        have hb' : anyRs mv as = true → hasSl2 x = false := fun h => by have := hb h; cases x <;> first | exact this | exact absurd rfl (hnt _)
        obtain ⟨A2, K2, R2, N2, V2⟩ := Q.B.take R1 s1 r1 hp hd ht hkn n1 (fun x hx => hUh x (hmem x hx))
          (fun hr0 x hx hxF => by
            rcases List.mem_append.1 hxF with hxF | hxF
            · rw [if_neg hr0] at hxF; cases hxF
            · exact (f4 x hxF).1 (hmem x hx))
          (fun hr0 x hx => by
            refine List.mem_append_left _ ?_
            rw [if_pos hr0]; exact hmem x hx) (fun x hx => List.mem_append_right _ (r3 x hx)) hb'
        exact ⟨A2, K2, R2, VRep.mono N2 (fun _ _ => rfl) (fun _ _ => ⟨rfl, rfl⟩) V2⟩
    · rw [h1] at ht
      simp only [take1, fromRet1] at ht
      cases ht
  · exact byV hrc

end
end Zab

