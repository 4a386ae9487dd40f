/- How the abstract machine's states stand to the model's. No statement of the program stands here. -/
import Derived.Test.YtohilcdmockfbaaDoorZabDef
namespace Zab
open Go
set_option linter.unusedSimpArgs false
set_option linter.unusedVariables false

structure Env where
  P : Program
  sent : Nat → Option (Nat × Nat)
  T : TypeId

def Env.errV (E : Env) (b : Nat × Nat) : Value := .iface E.T (.pointer (some ⟨b.1, b.2, none⟩))

/-- Blocks that stay: the variables of the errors, and the errors. -/
def Env.fixed (E : Env) (b : Nat) : Prop := ∃ g c, E.sent g = some c ∧ (b = g ∨ b = c.1)

/-- The program's errors lie where they were. -/
structure GOk (E : Env) (w : World) : Prop where
  var : ∀ g b, E.sent g = some b → w.cell? ⟨g, 0, none⟩ = some (E.errV b)
  obj : ∀ g b, E.sent g = some b → ∃ c e, w.heap[b.1]? = some (.cells c e (0, 0)) ∧ 0 < c.size
  inj : ∀ g h b, E.sent g = some b → E.sent h = some b → g = h

inductive FRep (E : Env) (w : World) (N : Nat → Prop) : AV → Value → Prop where
  | i (k : IntKind) (n : Int) : FRep E w N (.i k n) (.int k n)
  | b (x : Bool) : FRep E w N (.b x) (.bool x)
  | s (x : ByteArray) : FRep E w N (.s x) (.string x)
  | nl : FRep E w N .nl .nilIface
  | np : FRep E w N .np (.pointer none)
  | nf : FRep E w N .nf .nilFunc
  | er (g : Nat) (b : Nat × Nat) (h : E.sent g = some b) : FRep E w N (.er g) (E.errV b)
  | z (base : Option Addr) : FRep E w N .z (.slice base 0 0)
  | sl (cells : List AV) (n : Nat) (base : Option Addr) (c : Nat) (cs : Nat → Value) (hn : n ≤ c)
      (h0 : cells = [] ∨ ∃ blk off, base = some ⟨blk, off, none⟩ ∧ N blk ∧ ∀ j, j < cells.length → w.cell? ⟨blk, off + j, none⟩ = some (cs j))
      (h1 : ∀ j (hj : j < cells.length), FRep E w N (cells[j]) (cs j)) : FRep E w N (.sl cells n) (.slice base n c)

theorem FRep.mono {E : Env} {w w' : World} {N N' : Nat → Prop} (hN : ∀ b, N b → N' b) (hw : ∀ b, N b → w'.heap[b]? = w.heap[b]?) {x : AV} {v : Value} (h : FRep E w N x v) : FRep E w' N' x v := by
  induction h with
  | i k n => exact .i k n
  | b x => exact .b x
  | s x => exact .s x
  | nl => exact .nl
  | np => exact .np
  | nf => exact .nf
  | er g b h => exact .er g b h
  | z base => exact .z base
  | sl cells n base c cs hn h0 h1 ih =>
    refine .sl cells n base c cs hn ?_ ih
    rcases h0 with h0 | ⟨blk, off, hb, hN0, hc⟩
    · exact .inl h0
    · exact .inr ⟨blk, off, hb, hN _ hN0, fun j hj => by rw [World.cell?_of_block (w := w) (hw blk hN0)]; exact hc j hj⟩

theorem FRep.flat {E : Env} {w : World} {N : Nat → Prop} {x : AV} {v : Value} (h : FRep E w N x v) : x.flat = true := by
  cases h <;> rfl

theorem FRep.one {E : Env} {w : World} {N : Nat → Prop} {x : AV} {v : Value} (h : FRep E w N x v) : v.oneCell' = true := by
  cases h <;> rfl

/-- What bears no cells stands whatever the memory is. -/
theorem FRep.bare {E : Env} {w w' : World} {N N' : Nat → Prop} {x : AV} {v : Value} (h : FRep E w N x v) (hx : hasSl1 x = false) : FRep E w' N' x v := by
  cases h with
  | i k n => exact .i k n
  | b x => exact .b x
  | s x => exact .s x
  | nl => exact .nl
  | np => exact .np
  | nf => exact .nf
  | er g b h => exact .er g b h
  | z base => exact .z base
  | sl => simp [hasSl1] at hx

/-- What a slot holds, but for its parts. np: the first slot that is no argument. -/
inductive V1 (E : Env) (np : Nat) (w : World) (N : Nat → Prop) (A K : Nat → Nat) : AV → Value → Prop where
  | flat {x : AV} {v : Value} (h : FRep E w N x v) : V1 E np w N A K x v
  | ag (cells : List AV) (cs : List Value) (hl : cells.length = cs.length) (h : ∀ j (h1 : j < cells.length) (h2 : j < cs.length), FRep E w N cells[j] cs[j]) : V1 E np w N A K (.ag cells) (.agg cs.toArray)
  | rf (d off : Nat) : V1 E np w N A K (.rf d off) (.pointer (some ⟨A d, off, none⟩))
  | rs (d off n sz : Nat) (base : Option Addr) (c : Nat) (hd : np ≤ d) (hn : n ≤ c) (hk : off + c * sz ≤ K d)
      (hb : 0 < K d → base = some ⟨A d, off, none⟩) : V1 E np w N A K (.rs d off n sz) (.slice base n c)
  | el (cells : List AV) (j blk off : Nat) (cs : Nat → Value) (hN : N blk) (hc : ∀ j, j < cells.length → w.cell? ⟨blk, off + j, none⟩ = some (cs j))
      (h1 : ∀ j (hj : j < cells.length), FRep E w N (cells[j]) (cs j)) : V1 E np w N A K (.el cells j) (.pointer (some ⟨blk, off + j, none⟩))
  | gl (g : Nat) : V1 E np w N A K (.gl g) (.pointer (some ⟨g, 0, none⟩))
  | fn (f : Nat) : V1 E np w N A K (.fn f []) (.func (.func f) #[] #[])
  | un : V1 E np w N A K .un undef
  | gone (v : Value) : V1 E np w N A K .gone v

inductive VRep (E : Env) (np : Nat) (w : World) (N : Nat → Prop) (A K : Nat → Nat) : AV → Value → Prop where
  | one {x : AV} {v : Value} (h : V1 E np w N A K x v) : VRep E np w N A K x v
  | tp (l : List AV) (vs : List Value) (hl : l.length = vs.length) (h : ∀ j (h1 : j < l.length) (h2 : j < vs.length), V1 E np w N A K l[j] vs[j]) : VRep E np w N A K (.tp l) (.tuple vs.toArray)
  | fn (f : Nat) (l : List AV) (vs : List Value) (hl : l.length = vs.length) (h : ∀ j (h1 : j < l.length) (h2 : j < vs.length), V1 E np w N A K l[j] vs[j]) : VRep E np w N A K (.fn f l) (.func (.func f) #[] vs.toArray)

/-- Which rows a value names. -/
def names1 (d : Nat) : AV → Prop
  | .rf e _ => e = d
  | .rs e _ _ _ => e = d
  | _ => False

theorem V1.mono {E : Env} {np : Nat} {w w' : World} {N N' : Nat → Prop} {A K A' K' : Nat → Nat} (hN : ∀ b, N b → N' b) (hw : ∀ b, N b → w'.heap[b]? = w.heap[b]?) {x : AV} {v : Value}
    (hx : ∀ d, names1 d x → A' d = A d ∧ K' d = K d) (h : V1 E np w N A K x v) : V1 E np w' N' A' K' x v := by
  cases h with
  | flat h => exact .flat (h.mono hN hw)
  | ag cells cs hl h => exact .ag cells cs hl fun j h1 h2 => (h j h1 h2).mono hN hw
  | rf d off => have := hx d rfl; rw [← this.1]; exact .rf d off
  | rs d off n sz base c hd hn hk hb =>
    have := hx d rfl
    exact .rs d off n sz base c hd hn (by rw [this.2]; exact hk) (by rw [this.1, this.2]; exact hb)
  | el cells j blk off cs hN0 hc h1 => exact .el cells j blk off cs (hN _ hN0) (fun j hj => by rw [World.cell?_of_block (w := w) (hw blk hN0)]; exact hc j hj) (fun j hj => (h1 j hj).mono hN hw)
  | gl g => exact .gl g
  | fn f => exact .fn f
  | un => exact .un
  | gone v => exact .gone v

def namesV (d : Nat) : AV → Prop
  | .tp l => ∃ x ∈ l, names1 d x
  | .fn _ l => ∃ x ∈ l, names1 d x
  | x => names1 d x

theorem names1_V {d : Nat} {x : AV} (h : names1 d x) : namesV d x := by
  cases x <;> simp_all [names1, namesV]

theorem VRep.mono {E : Env} {np : Nat} {w w' : World} {N N' : Nat → Prop} {A K A' K' : Nat → Nat} (hN : ∀ b, N b → N' b) (hw : ∀ b, N b → w'.heap[b]? = w.heap[b]?) {x : AV} {v : Value}
    (hx : ∀ d, namesV d x → A' d = A d ∧ K' d = K d) (h : VRep E np w N A K x v) : VRep E np w' N' A' K' x v := by
  cases h with
  | one h => exact .one (h.mono hN hw fun d hd => hx d (names1_V hd))
  | tp l vs hl h => exact .tp l vs hl fun j h1 h2 => (h j h1 h2).mono hN hw fun d hd => hx d ⟨_, List.getElem_mem h1, hd⟩
  | fn f l vs hl h => exact .fn f l vs hl fun j h1 h2 => (h j h1 h2).mono hN hw fun d hd => hx d ⟨_, List.getElem_mem h1, hd⟩

/-! ### Lists by number -/

theorem get_put (l : List (Nat × AV)) (i : Nat) (v : AV) (j : Nat) : get (put l i v) j = if j = i then v else get l j := by
  induction l with
  | nil => by_cases h : j = i <;> simp [put, get, h, Nat.beq_eq] <;> simp [Nat.beq_eq, Bool.cond_eq_ite] <;> intro e <;> exact absurd e.symm h
  | cons p r ih =>
    obtain ⟨k, u⟩ := p
    simp only [put]
    by_cases h1 : k < i
    · simp only [show Nat.blt k i = true by simpa [Nat.blt_eq] using h1, cond_true, get]
      by_cases h : j = i
      · subst h; simp [Nat.beq_refl]
      · have : Nat.beq i j = false := by rw [← Bool.not_eq_true, Nat.beq_eq]; exact fun e => h e.symm
        simp [this, h, get]
    · have hb : Nat.blt k i = false := by rw [← Bool.not_eq_true, Nat.blt_eq]; exact h1
      simp only [hb, cond_false]
      by_cases h2 : i = k
      · subst h2
        simp only [Nat.beq_refl, cond_true, get]
        by_cases h : j = i
        · subst h; simp [Nat.beq_refl]
        · have : Nat.beq i j = false := by rw [← Bool.not_eq_true, Nat.beq_eq]; exact fun e => h e.symm
          simp [this, h]
      · have : Nat.beq i k = false := by rw [← Bool.not_eq_true, Nat.beq_eq]; exact h2
        simp only [this, cond_false, get]
        by_cases h3 : k = j
        · subst h3
          simp [Nat.beq_refl, show ¬ k = i from fun e => h2 e.symm]
        · have : Nat.beq k j = false := by rw [← Bool.not_eq_true, Nat.beq_eq]; exact h3
          simp [this, ih]

theorem look_put (l : List (Nat × List AV)) (i : Nat) (v : List AV) (j : Nat) : look (put l i v) j = if j = i then some v else look l j := by
  induction l with
  | nil => by_cases h : j = i <;> simp [put, look, h, Nat.beq_eq] <;> simp [Nat.beq_eq, Bool.cond_eq_ite] <;> intro e <;> exact absurd e.symm h
  | cons p r ih =>
    obtain ⟨k, u⟩ := p
    simp only [put]
    by_cases h1 : k < i
    · simp only [show Nat.blt k i = true by simpa [Nat.blt_eq] using h1, cond_true, look]
      by_cases h : j = i
      · subst h; simp [Nat.beq_refl]
      · have : Nat.beq i j = false := by rw [← Bool.not_eq_true, Nat.beq_eq]; exact fun e => h e.symm
        simp [this, h, look]
    · have hb : Nat.blt k i = false := by rw [← Bool.not_eq_true, Nat.blt_eq]; exact h1
      simp only [hb, cond_false]
      by_cases h2 : i = k
      · subst h2
        simp only [Nat.beq_refl, cond_true, look]
        by_cases h : j = i
        · subst h; simp [Nat.beq_refl]
        · have : Nat.beq i j = false := by rw [← Bool.not_eq_true, Nat.beq_eq]; exact fun e => h e.symm
          simp [this, h]
      · have : Nat.beq i k = false := by rw [← Bool.not_eq_true, Nat.beq_eq]; exact h2
        simp only [this, cond_false, look]
        by_cases h3 : k = j
        · subst h3
          simp [Nat.beq_refl, show ¬ k = i from fun e => h2 e.symm]
        · have : Nat.beq k j = false := by rw [← Bool.not_eq_true, Nat.beq_eq]; exact h3
          simp [this, ih]

theorem look_del (l : List (Nat × List AV)) (i j : Nat) : look (del l i) j = if j = i then none else look l j := by
  induction l with
  | nil => simp [del, look]
  | cons p r ih =>
    obtain ⟨k, u⟩ := p
    simp only [del]
    by_cases h : k = i
    · subst h
      simp only [Nat.beq_refl, cond_true, ih, look]
      by_cases h2 : j = k
      · simp [h2]
      · have : Nat.beq k j = false := by rw [← Bool.not_eq_true, Nat.beq_eq]; exact fun e => h2 e.symm
        simp [this, h2]
    · have hb : Nat.beq k i = false := by rw [← Bool.not_eq_true, Nat.beq_eq]; exact h
      simp only [hb, cond_false, look, ih]
      by_cases h2 : k = j
      · subst h2; simp [Nat.beq_refl, h]
      · have : Nat.beq k j = false := by rw [← Bool.not_eq_true, Nat.beq_eq]; exact h2
        simp [this]

theorem get_mapS (f : AV → AV) (hf : f .gone = .gone) (l : List (Nat × AV)) (j : Nat) : get (mapS f l) j = (get l j).mapR f := by
  induction l with
  | nil => simp [mapS, get, AV.mapR, hf]
  | cons p r ih =>
    obtain ⟨k, u⟩ := p
    simp only [mapS, get]
    cases Nat.beq k j <;> simp [ih]

theorem get_keep (ks : List Nat) (l : List (Nat × AV)) (j : Nat) : get (keepS ks l) j = get l j ∨ get (keepS ks l) j = .gone := by
  induction ks with
  | nil => exact .inr rfl
  | cons k r ih =>
    simp only [keepS, get]
    cases hb : Nat.beq k j
    · simpa using ih
    · have : k = j := Nat.eq_of_beq_eq_true hb
      subst this; exact .inl rfl

theorem look_keep (ks : List Nat) (l : List (Nat × List AV)) (j : Nat) : look (keepL ks l) j = look l j ∨ look (keepL ks l) j = none := by
  induction ks with
  | nil => exact .inr rfl
  | cons k r ih =>
    simp only [keepL]
    cases hl : look l k with
    | none => exact ih
    | some cs =>
      simp only [look]
      cases hb : Nat.beq k j
      · simpa using ih
      · have : k = j := Nat.eq_of_beq_eq_true hb
        subst this; exact .inl hl.symm

/-! ### The state -/

/-- What stays through a call: the program; the world at its begin; what it may write (M), what it must not name (X); its arguments' rows. -/
structure Ctx where
  E : Env
  w0 : World
  M : Nat → Prop
  X : Nat → Prop
  np : Nat
  nt : Nat
  A0 : Nat → Nat
  K0 : Nat → Nat

def Live (l : List (Nat × List AV)) (K : Nat → Nat) (d : Nat) : Prop := look l d ≠ none ∧ 0 < K d

/-- Blocks that nobody writes. -/
def Still (C : Ctx) (A K : Nat → Nat) (l : List (Nat × List AV)) (w : World) (b : Nat) : Prop :=
  b < w.heap.size ∧ ¬ C.X b ∧ ∀ d, Live l K d → A d ≠ b

structure Row (E : Env) (w : World) (N : Nat → Prop) (blk k : Nat) (cs : List AV) : Prop where
  le : cs.length ≤ k
  row : 0 < k → ∃ cc e, w.heap[blk]? = some (.cells cc e (0, 0)) ∧ cc.size = k ∧ ∀ j (hj : j < cs.length), ∃ v, cc[j]? = some v ∧ FRep E w N cs[j] v

structure Rel (C : Ctx) (A K : Nat → Nat) (S : St) (a : Act) (w : World) : Prop where
  slot : ∀ i, VRep C.E C.np w (Still C A K S.l w) A K (get S.s i) (a.tmps.getD i undef)
  row : ∀ d cs, look S.l d = some cs → Row C.E w (Still C A K S.l w) (A d) (K d) cs
  inj : ∀ d e, Live S.l K d → Live S.l K e → A d = A e → d = e
  own : ∀ d, Live S.l K d → (C.w0.heap.size ≤ A d ∨ C.M (A d)) ∧ ¬ C.X (A d) ∧ ¬ C.E.fixed (A d)
  arg : ∀ d, d < C.np → look S.l d ≠ none → A d = C.A0 d ∧ K d = C.K0 d
  glob : GOk C.E w
  frame : ∀ b, b < C.w0.heap.size → ¬ C.M b → w.heap[b]? = C.w0.heap[b]?
  size : C.w0.heap.size ≤ w.heap.size
  os : w.os = C.w0.os
  tape : w.tape = C.w0.tape
  output : w.output = C.w0.output
  defers : a.defers = []
  tsz : a.tmps.size = C.nt
  xlt : ∀ b, C.X b → b < C.w0.heap.size

theorem Live.lt {C : Ctx} {A K : Nat → Nat} {S : St} {a : Act} {w : World} (R : Rel C A K S a w) {d : Nat} (h : Live S.l K d) : A d < w.heap.size := by
  obtain ⟨h1, h2⟩ := h
  cases hl : look S.l d with
  | none => exact absurd hl h1
  | some cs =>
    obtain ⟨cc, e, hh, _⟩ := (R.row d cs hl).row h2
    exact (Array.getElem?_eq_some_iff.1 hh).1

/-- A slot is written. -/
theorem Rel.set1 {C : Ctx} {A K : Nat → Nat} {S : St} {a : Act} {w : World} (R : Rel C A K S a w) {d : Nat} (hd : d < C.nt) {x : AV} {v : Value}
    (h : VRep C.E C.np w (Still C A K S.l w) A K x v) : Rel C A K (S.putD (some d) x) (a.put (some d) v) w := by
  refine { R with slot := fun i => ?_, tsz := ?_ }
  · simp only [St.putD, get_put, Act.put]
    have hsz := R.tsz
    by_cases hi : i = d
    · subst hi
      simp only [if_true]
      have : (a.tmps.setIfInBounds i v).getD i undef = v := by
        simp [Array.getD_eq_getD_getElem?, Array.getElem?_setIfInBounds, hsz, hd]
      rw [this]; exact h
    · rw [if_neg hi]
      have : (a.tmps.setIfInBounds d v).getD i undef = a.tmps.getD i undef := by
        simp [Array.getD_eq_getD_getElem?, Array.getElem?_setIfInBounds, show ¬ d = i from fun e => hi e.symm]
      rw [this]; exact R.slot i
  · simpa [Act.put] using R.tsz

theorem Rel.putN {C : Ctx} {A K : Nat → Nat} {S : St} {a : Act} {w : World} (R : Rel C A K S a w) {dst : Option Nat} (hd : ∀ d, dst = some d → d < C.nt) {x : AV} {v : Value}
    (h : VRep C.E C.np w (Still C A K S.l w) A K x v) : Rel C A K (S.putD dst x) (a.put dst v) w := by
  cases dst with
  | none => exact R
  | some d => exact R.set1 (hd d rfl) h

/-- The world has grown: a new block, a draw. -/
structure Grew (w w' : World) : Prop where
  size : w.heap.size ≤ w'.heap.size
  block : ∀ b, b < w.heap.size → w'.heap[b]? = w.heap[b]?
  os : w'.os = w.os
  tape : w'.tape = w.tape
  output : w'.output = w.output

theorem Grew.refl (w : World) : Grew w w := ⟨Nat.le_refl _, fun _ _ => rfl, rfl, rfl, rfl⟩
theorem Grew.trans {a b c : World} (h : Grew a b) (k : Grew b c) : Grew a c :=
  ⟨Nat.le_trans h.size k.size, fun i hi => (k.block i (Nat.lt_of_lt_of_le hi h.size)).trans (h.block i hi), k.os.trans h.os, k.tape.trans h.tape, k.output.trans h.output⟩
theorem Grew.alloc (w : World) (o : Obj) : Grew w (w.alloc o) :=
  ⟨by show _ ≤ (w.heap.push o).size; simp, fun b hb => by show (w.heap.push o)[b]? = _; rw [Array.getElem?_push, if_neg (by omega)], rfl, rfl, rfl⟩
theorem Grew.drew (w : World) : Grew w w.drew := ⟨Nat.le_refl _, fun _ _ => rfl, rfl, rfl, rfl⟩

theorem fixed_lt {E : Env} {w : World} (G : GOk E w) {b : Nat} (h : E.fixed b) : b < w.heap.size := by
  obtain ⟨g, c, hs, rfl | rfl⟩ := h
  · have := G.var b c hs
    unfold World.cell? at this
    split at this
    · rename_i hh; exact (Array.getElem?_eq_some_iff.1 hh).1
    · cases this
  · obtain ⟨cc, e, hh, _⟩ := G.obj g c hs
    exact (Array.getElem?_eq_some_iff.1 hh).1

theorem GOk.same {E : Env} {w w' : World} (G : GOk E w) (h : ∀ b, E.fixed b → w'.heap[b]? = w.heap[b]?) : GOk E w' where
  var := fun g b hs => by rw [World.cell?_of_block (w := w) (h g ⟨g, b, hs, .inl rfl⟩)]; exact G.var g b hs
  obj := fun g b hs => by rw [h b.1 ⟨g, b, hs, .inr rfl⟩]; exact G.obj g b hs
  inj := G.inj

theorem Still.grew {C : Ctx} {A K : Nat → Nat} {l : List (Nat × List AV)} {w w' : World} (h : w.heap.size ≤ w'.heap.size) {b : Nat} (hb : Still C A K l w b) : Still C A K l w' b :=
  ⟨Nat.lt_of_lt_of_le hb.1 h, hb.2⟩

theorem Row.mono {E : Env} {w w' : World} {N N' : Nat → Prop} {blk k : Nat} {cs : List AV} (hN : ∀ b, N b → N' b) (hw : ∀ b, N b → w'.heap[b]? = w.heap[b]?) (hb : 0 < k → w'.heap[blk]? = w.heap[blk]?)
    (h : Row E w N blk k cs) : Row E w' N' blk k cs where
  le := h.le
  row := fun hk => by
    obtain ⟨cc, e, h1, h2, h3⟩ := h.row hk
    exact ⟨cc, e, by rw [hb hk]; exact h1, h2, fun j hj => let ⟨v, a, b⟩ := h3 j hj; ⟨v, a, b.mono hN hw⟩⟩

theorem Rel.grew {C : Ctx} {A K : Nat → Nat} {S : St} {a : Act} {w w' : World} (R : Rel C A K S a w) (G : Grew w w') : Rel C A K S a w' where
  slot := fun i => (R.slot i).mono (fun b hb => hb.grew G.size) (fun b hb => G.block b hb.1) (fun _ _ => ⟨rfl, rfl⟩)
  row := fun d cs h => (R.row d cs h).mono (fun b hb => hb.grew G.size) (fun b hb => G.block b hb.1) (fun hk => G.block _ (Live.lt R ⟨by rw [h]; simp, hk⟩))
  inj := R.inj
  own := R.own
  arg := R.arg
  glob := R.glob.same fun b hb => G.block b (fixed_lt R.glob hb)
  frame := fun b hb hm => (G.block b (Nat.lt_of_lt_of_le hb R.size)).trans (R.frame b hb hm)
  size := Nat.le_trans R.size G.size
  os := G.os.trans R.os
  tape := G.tape.trans R.tape
  output := G.output.trans R.output
  defers := R.defers
  tsz := R.tsz
  xlt := R.xlt

/-- A new block is still, if no row lies there. -/
theorem Rel.still_new {C : Ctx} {A K : Nat → Nat} {S : St} {a : Act} {w : World} (R : Rel C A K S a w) (o : Obj) : Still C A K S.l (w.alloc o) w.heap.size :=
  ⟨by show _ < (w.heap.push o).size; simp, fun hx => by have := R.xlt _ hx; have := R.size; omega, fun d hd => by have := Live.lt R hd; omega⟩

/-! ### How states turn -/

def upd {α : Type} (f : Nat → α) (d : Nat) (x : α) (i : Nat) : α := if i = d then x else f i
theorem upd_same {α : Type} (f : Nat → α) (d : Nat) (x : α) : upd f d x d = x := by simp [upd]
theorem upd_other {α : Type} (f : Nat → α) (d : Nat) (x : α) {i : Nat} (h : i ≠ d) : upd f d x i = f i := by simp [upd, h]

theorem names1_kill {d e : Nat} {x : AV} (h : names1 e (kill1 d x)) : e ≠ d ∧ names1 e x := by
  cases x <;> simp only [kill1, names1] at h
  case rf f o =>
    cases hb : Nat.beq f d
    · simp only [hb, cond_false, names1] at h; subst h
      exact ⟨fun hh => by subst hh; simp at hb, rfl⟩
    · simp [hb, names1] at h
  case rs f o n sz =>
    cases hb : Nat.beq f d
    · simp only [hb, cond_false, names1] at h; subst h
      exact ⟨fun hh => by subst hh; simp at hb, rfl⟩
    · simp [hb, names1] at h
  case fn f l => cases l <;> simp [kill1, names1] at h

theorem namesV_kill {d e : Nat} {x : AV} (h : namesV e (x.mapR (kill1 d))) : e ≠ d := by
  cases x <;> simp only [AV.mapR] at h
  case tp l =>
    obtain ⟨y, hy, hn⟩ := h
    obtain ⟨u, _, rfl⟩ := List.mem_map.1 hy
    exact (names1_kill hn).1
  case fn f l =>
    obtain ⟨y, hy, hn⟩ := h
    obtain ⟨u, _, rfl⟩ := List.mem_map.1 hy
    exact (names1_kill hn).1
  case rf f o => exact (names1_kill (x := .rf f o) (by simp only [kill1] at h ⊢; cases hb : Nat.beq f d <;> simp_all [namesV, names1])).1
  case rs f o n sz => exact (names1_kill (x := .rs f o n sz) (by simp only [kill1] at h ⊢; cases hb : Nat.beq f d <;> simp_all [namesV, names1])).1
  all_goals simp [kill1, namesV, names1] at h

theorem V1.kill {E : Env} {np : Nat} {w : World} {N : Nat → Prop} {A K : Nat → Nat} {x : AV} {v : Value} (d : Nat) (h : V1 E np w N A K x v) : V1 E np w N A K (kill1 d x) v := by
  cases h with
  | flat h => cases h <;> first | exact .flat (by constructor <;> assumption) | (refine .flat (.sl _ _ _ _ _ ?_ ?_ ?_) <;> assumption)
  | ag cells cs hl h => exact .ag cells cs hl h
  | rf e o => simp only [kill1]; cases Nat.beq e d
              · exact .rf e o
              · exact .gone _
  | rs e o n sz base c hd hn hk hb => simp only [kill1]; cases Nat.beq e d
                                      · exact .rs e o n sz base c hd hn hk hb
                                      · exact .gone _
  | el cells j blk off cs hN hc h1 => exact .el cells j blk off cs hN hc h1
  | gl g => exact .gl g
  | fn f => exact .fn f
  | un => exact .un
  | gone v => exact .gone v

theorem VRep.map {E : Env} {np : Nat} {w w' : World} {N N' : Nat → Prop} {A K A' K' : Nat → Nat} {f : AV → AV} (hf : ∀ x v, V1 E np w N A K x v → V1 E np w' N' A' K' (f x) v)
    (hfn : ∀ g l, f (.fn g l) = .gone ∨ f (.fn g l) = .fn g l) {x : AV} {v : Value} (h : VRep E np w N A K x v) : VRep E np w' N' A' K' (x.mapR f) v := by
  cases h with
  | one h =>
    cases x
    case tp l => cases h with | flat h => cases h
    case fn g l => cases h with
                   | flat h => cases h
                   | fn f => exact .one (.fn _)
    all_goals exact .one (hf _ _ h)
  | tp l vs hl h => exact .tp _ vs (by simpa using hl) fun j h1 h2 => by simpa using hf _ _ (h j (by simpa using h1) h2)
  | fn g l vs hl h => exact .fn _ _ vs (by simpa using hl) fun j h1 h2 => by simpa using hf _ _ (h j (by simpa using h1) h2)

theorem VRep.kill {E : Env} {np : Nat} {w : World} {N : Nat → Prop} {A K : Nat → Nat} {x : AV} {v : Value} (d : Nat) (h : VRep E np w N A K x v) : VRep E np w N A K (x.mapR (kill1 d)) v :=
  h.map (fun _ _ h => h.kill d) (fun g l => by cases l <;> simp [kill1])

theorem live_upd {l : List (Nat × List AV)} {K : Nat → Nat} {d k : Nat} {cs : List AV} {e : Nat} : Live (put (del l d) d cs) (upd K d k) e ↔ (e = d ∧ 0 < k) ∨ (e ≠ d ∧ Live l K e) := by
  unfold Live
  rw [look_put, look_del]
  by_cases h : e = d
  · subst h; simp [upd]
  · simp [h, upd]

/-- Row d is made anew (what named it is gone). -/
theorem Rel.reroot {C : Ctx} {A K : Nat → Nat} {S : St} {a : Act} {w w' : World} (R : Rel C A K S a w) {d b k : Nat} {cs : List AV} (hnp : C.np ≤ d)
    (hsize : w.heap.size ≤ w'.heap.size) (hblock : ∀ b', b' < w.heap.size → (0 < k → b' ≠ b) → w'.heap[b']? = w.heap[b']?)
    (hos : w'.os = w.os) (htape : w'.tape = w.tape) (hout : w'.output = w.output)
    (hown : 0 < k → (C.w0.heap.size ≤ b ∨ C.M b) ∧ ¬ C.X b ∧ ¬ C.E.fixed b)
    (hN : 0 < k → ∀ b', Still C A K S.l w b' → b' ≠ b)
    (hA : 0 < k → ∀ e, e ≠ d → Live S.l K e → A e ≠ b)
    (hrow : Row C.E w' (Still C (upd A d b) (upd K d k) (put (del S.l d) d cs) w') b k cs) :
    Rel C (upd A d b) (upd K d k) { s := mapS (kill1 d) S.s, l := put (del S.l d) d cs } a w' := by
  have hst : ∀ b', Still C A K S.l w b' → Still C (upd A d b) (upd K d k) (put (del S.l d) d cs) w' b' := fun b' hb' => by
    refine ⟨Nat.lt_of_lt_of_le hb'.1 hsize, hb'.2.1, fun e he => ?_⟩
    rcases live_upd.1 he with ⟨rfl, hk⟩ | ⟨hne, hl⟩
    · rw [upd_same]; exact fun e => hN hk b' hb' e.symm
    · rw [upd_other _ _ _ hne]; exact hb'.2.2 e hl
  have hbl : ∀ b', Still C A K S.l w b' → w'.heap[b']? = w.heap[b']? := fun b' hb' => hblock b' hb'.1 (fun hk => hN hk b' hb')
  constructor
  case slot =>
    intro i
    show VRep _ _ _ _ _ _ (get (mapS (kill1 d) S.s) i) _
    rw [get_mapS _ rfl]
    refine ((R.slot i).kill d).mono hst hbl fun e he => ?_
    have := namesV_kill he
    exact ⟨upd_other _ _ _ this, upd_other _ _ _ this⟩
  case row =>
    intro e cs' he
    simp only [look_put, look_del] at he
    by_cases hed : e = d
    · subst hed
      simp only [if_true, Option.some.injEq] at he
      subst he
      rw [upd_same, upd_same]; exact hrow
    · simp only [hed, if_false] at he
      rw [upd_other _ _ _ hed, upd_other _ _ _ hed]
      refine (R.row e cs' he).mono hst hbl fun hk => hblock _ (Live.lt R ⟨by rw [he]; simp, hk⟩) fun hk0 => hA hk0 e hed ⟨by rw [he]; simp, hk⟩
  case inj =>
    intro e f he hf h
    rcases live_upd.1 he with ⟨rfl, hk⟩ | ⟨hne, hl⟩ <;> rcases live_upd.1 hf with ⟨rfl, hk'⟩ | ⟨hnf, hl'⟩
    · rfl
    · rw [upd_same, upd_other _ _ _ hnf] at h; exact absurd h.symm (hA hk f hnf hl')
    · rw [upd_same, upd_other _ _ _ hne] at h; exact absurd h (hA hk' e hne hl)
    · rw [upd_other _ _ _ hne, upd_other _ _ _ hnf] at h; exact R.inj e f hl hl' h
  case own =>
    intro e he
    rcases live_upd.1 he with ⟨rfl, hk⟩ | ⟨hne, hl⟩
    · rw [upd_same]; exact hown hk
    · rw [upd_other _ _ _ hne]; exact R.own e hl
  case arg =>
    intro e he hl
    have hne : e ≠ d := by omega
    rw [upd_other _ _ _ hne, upd_other _ _ _ hne]
    refine R.arg e he ?_
    simp only [look_put, look_del, hne, if_false] at hl
    exact hl
  case glob => exact R.glob.same fun b' hb' => hblock b' (fixed_lt R.glob hb') fun hk e => (hown hk).2.2 (e ▸ hb')
  case frame =>
    intro b' hb' hm
    rw [hblock b' (Nat.lt_of_lt_of_le hb' R.size) fun hk e => by
      subst e
      rcases (hown hk).1 with h | h
      · omega
      · exact hm h]
    exact R.frame b' hb' hm
  case size => exact Nat.le_trans R.size hsize
  case os => exact hos.trans R.os
  case tape => exact htape.trans R.tape
  case output => exact hout.trans R.output
  case defers => exact R.defers
  case tsz => exact R.tsz
  case xlt => exact R.xlt

theorem live_put {l : List (Nat × List AV)} {K : Nat → Nat} {d : Nat} {cs : List AV} (hd : look l d ≠ none) {e : Nat} : Live (put l d cs) K e ↔ Live l K e := by
  unfold Live
  rw [look_put]
  by_cases h : e = d
  · subst h; simp [hd]
  · simp [h]

/-- Cells of row d are written. -/
theorem Rel.setRow {C : Ctx} {A K : Nat → Nat} {S : St} {a : Act} {w w' : World} (R : Rel C A K S a w) {d : Nat} {cs : List AV} (hd : look S.l d ≠ none) (hk : 0 < K d)
    (hsize : w.heap.size = w'.heap.size) (hblock : ∀ b', b' ≠ A d → w'.heap[b']? = w.heap[b']?)
    (hos : w'.os = w.os) (htape : w'.tape = w.tape) (hout : w'.output = w.output)
    (hrow : Row C.E w' (Still C A K S.l w) (A d) (K d) cs) :
    Rel C A K { s := S.s, l := put S.l d cs } a w' := by
  have hlive : Live S.l K d := ⟨hd, hk⟩
  have hst : ∀ b', Still C A K S.l w b' → Still C A K (put S.l d cs) w' b' := fun b' hb' => ⟨by rw [← hsize]; exact hb'.1, hb'.2.1, fun e he => hb'.2.2 e ((live_put hd).1 he)⟩
  have hbl : ∀ b', Still C A K S.l w b' → w'.heap[b']? = w.heap[b']? := fun b' hb' => hblock b' fun e => hb'.2.2 d hlive e.symm
  constructor
  case slot => exact fun i => (R.slot i).mono hst hbl fun _ _ => ⟨rfl, rfl⟩
  case row =>
    intro e cs' he
    simp only [look_put] at he
    by_cases hed : e = d
    · subst hed
      simp only [if_true, Option.some.injEq] at he
      subst he
      exact ⟨hrow.le, fun h => let ⟨cc, t, h1, h2, h3⟩ := hrow.row h; ⟨cc, t, h1, h2, fun j hj => let ⟨v, p, q⟩ := h3 j hj; ⟨v, p, q.mono hst (fun _ _ => rfl)⟩⟩⟩
    · simp only [hed, if_false] at he
      exact (R.row e cs' he).mono hst hbl fun hke => hblock _ fun h => hed (R.inj e d ⟨by rw [he]; simp, hke⟩ hlive h)
  case inj => exact fun e f he hf h => R.inj e f ((live_put hd).1 he) ((live_put hd).1 hf) h
  case own => exact fun e he => R.own e ((live_put hd).1 he)
  case arg =>
    intro e he hl
    refine R.arg e he ?_
    simp only [look_put] at hl
    by_cases hed : e = d
    · subst hed; exact hd
    · simpa [hed] using hl
  case glob => exact R.glob.same fun b' hb' => hblock b' fun e => (R.own d hlive).2.2 (e ▸ hb')
  case frame =>
    intro b' hb' hm
    rw [hblock b' fun e => by
      subst e
      rcases (R.own d hlive).1 with h | h
      · omega
      · exact hm h]
    exact R.frame b' hb' hm
  case size => rw [← hsize]; exact R.size
  case os => exact hos.trans R.os
  case tape => exact htape.trans R.tape
  case output => exact hout.trans R.output
  case defers => exact R.defers
  case tsz => exact R.tsz
  case xlt => exact R.xlt

theorem live_less {l l' : List (Nat × List AV)} {K : Nat → Nat} (hl : ∀ d, look l' d = look l d ∨ look l' d = none) {e : Nat} (he : Live l' K e) : Live l K e := by
  refine ⟨?_, he.2⟩
  rcases hl e with h | h
  · rw [← h]; exact he.1
  · exact absurd h he.1

/-- Fewer slots, fewer rows: what is gone is not told. -/
theorem Rel.less {C : Ctx} {A K : Nat → Nat} {S S' : St} {a : Act} {w : World} (R : Rel C A K S a w)
    (hl : ∀ d, look S'.l d = look S.l d ∨ look S'.l d = none)
    (hs : ∀ i, VRep C.E C.np w (Still C A K S'.l w) A K (get S'.s i) (a.tmps.getD i undef)) : Rel C A K S' a w := by
  have hlive : ∀ e, Live S'.l K e → Live S.l K e := fun e he => live_less hl he
  have hst : ∀ b', Still C A K S.l w b' → Still C A K S'.l w b' := fun b' hb' => ⟨hb'.1, hb'.2.1, fun e he => hb'.2.2 e (hlive e he)⟩
  refine { R with slot := hs, row := fun d cs h => ?_, inj := fun d e hd he h => R.inj d e (hlive d hd) (hlive e he) h, own := fun d hd => R.own d (hlive d hd), arg := fun d hd h => R.arg d hd ?_ }
  · rcases hl d with h1 | h1
    · exact (R.row d cs (by rw [← h1]; exact h)).mono hst (fun _ _ => rfl) (fun _ => rfl)
    · rw [h1] at h; cases h
  · rcases hl d with h1 | h1
    · rw [← h1]; exact h
    · exact absurd h1 h

theorem Still.less {C : Ctx} {A K : Nat → Nat} {l l' : List (Nat × List AV)} {w : World} (hl : ∀ d, look l' d = look l d ∨ look l' d = none) {b : Nat} (h : Still C A K l w b) : Still C A K l' w b :=
  ⟨h.1, h.2.1, fun e he => h.2.2 e (live_less hl he)⟩

theorem Rel.clean {C : Ctx} {A K : Nat → Nat} {S : St} {a : Act} {w : World} (R : Rel C A K S a w) (ks kr : List Nat) : Rel C A K (S.clean ks kr) a w := by
  have hl : ∀ d, look (keepL kr S.l) d = look S.l d ∨ look (keepL kr S.l) d = none := fun d => look_keep kr S.l d
  refine R.less hl fun i => ?_
  rcases get_keep ks S.s i with h | h
  · show VRep _ _ _ _ _ _ (get (keepS ks S.s) i) _
    rw [h]
    exact (R.slot i).mono (fun b hb => hb.less hl) (fun _ _ => rfl) (fun _ _ => ⟨rfl, rfl⟩)
  · show VRep _ _ _ _ _ _ (get (keepS ks S.s) i) _
    rw [h]; exact .one (.gone _)

theorem Rel.frz {C : Ctx} {A K : Nat → Nat} {S : St} {a : Act} {w : World} (R : Rel C A K S a w) {d : Nat} {cs : List AV} (hd : look S.l d = some cs) :
    Rel C A K { s := mapS (frz1 d cs) S.s, l := del S.l d } a w := by
  have hl : ∀ e, look (del S.l d) e = look S.l e ∨ look (del S.l d) e = none := fun e => by
    rw [look_del]; by_cases h : e = d <;> simp [h]
  have hstill : 0 < K d → Still C A K (del S.l d) w (A d) := fun hk => by
    have hlive : Live S.l K d := ⟨by rw [hd]; simp, hk⟩
    refine ⟨Live.lt R hlive, (R.own d hlive).2.1, fun e he hh => ?_⟩
    have he1 : Live S.l K e := ⟨by have := he.1; rw [look_del] at this; by_cases h : e = d <;> simp_all, he.2⟩
    have := R.inj e d he1 hlive hh
    subst this
    have := he.1; rw [look_del] at this; simp at this
  refine R.less hl fun i => ?_
  show VRep _ _ _ _ _ _ (get (mapS (frz1 d cs) S.s) i) _
  rw [get_mapS _ rfl]
  refine ((R.slot i).mono (fun b hb => hb.less hl) (fun _ _ => rfl) (fun _ _ => ⟨rfl, rfl⟩)).map (fun x v h => ?_) (fun g l => by cases l <;> simp [frz1])
  cases h with
  | flat h => cases h <;> first | exact .flat (by constructor <;> assumption) | (refine .flat (.sl _ _ _ _ _ ?_ ?_ ?_) <;> assumption)
  | ag cells cs hl h => exact .ag cells cs hl h
  | rf e o => simp only [frz1]; cases Nat.beq e d
              · exact .rf e o
              · exact .gone _
  | rs e o n sz base c hnp hn hk hb =>
    simp only [frz1]
    cases hb' : Nat.beq e d
    · exact .rs e o n sz base c hnp hn hk hb
    · have := Nat.eq_of_beq_eq_true hb'
      subst this
      simp only [cond_true]
      have hrow := R.row e cs hd
      by_cases hk0 : 0 < K e
      · obtain ⟨cc, t, h1, h2, h3⟩ := hrow.row hk0
        have hlen := hrow.le
        refine .flat (.sl _ n base c (fun j => cc.getD (o + j) undef) hn (.inr ⟨A e, o, hb hk0, hstill hk0, fun j hj => ?_⟩) fun j hj => ?_)
        · simp only [List.length_take, List.length_drop] at hj
          obtain ⟨v, hv, _⟩ := h3 (o + j) (by omega)
          simp [World.cell?, h1, hv, Array.getD_eq_getD_getElem?]
        · simp only [List.length_take, List.length_drop] at hj
          obtain ⟨v, hv, hf⟩ := h3 (o + j) (by omega)
          have : cc.getD (o + j) undef = v := by simp [Array.getD_eq_getD_getElem?, hv]
          rw [this]
          simp only [List.getElem_take, List.getElem_drop]
          exact hf.mono (fun b hb => hb.less hl) (fun _ _ => rfl)
      · have : cs = [] := by have := hrow.le; cases cs <;> simp_all
        subst this
        refine .flat (.sl _ n base c (fun _ => undef) hn (.inl (by simp)) fun j hj => by simp at hj)
  | el cells j blk off cs hN hc h1 => exact .el cells j blk off cs hN hc h1
  | gl g => exact .gl g
  | fn f => exact .fn f
  | un => exact .un
  | gone v => exact .gone v

theorem Rel.freezes {C : Ctx} {A K : Nat → Nat} {a : Act} {w : World} : ∀ (fr : List Nat) {S S1 : St}, Rel C A K S a w → Zab.freezes S fr = some S1 → Rel C A K S1 a w
  | [], S, S1, R, h => by simp only [Zab.freezes, Option.some.injEq] at h; exact h ▸ R
  | d :: r, S, S1, R, h => by
    simp only [Zab.freezes, St.freeze] at h
    cases hd : look S.l d with
    | none => simp [hd] at h
    | some cs => simp only [hd] at h; exact Rel.freezes r (R.frz hd) h

end Zab
