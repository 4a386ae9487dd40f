/- Regions, in whatever order. No statement of the program stands here. -/
import Derived.Test.YtohilcdmockfbaaDoorZabStep
import Derived.Test.YtohilcdmockfbaaDoorZabComm
namespace Zab
open Go
set_option linter.unusedSimpArgs false
set_option linter.unusedVariables false

def stepsIx (call : CallF) (al : List AOper) : List Nat → St → Option St
  | [], S => some S
  | i :: r, S => match al[i]? with | some o => (step call o S).bind (stepsIx call al r) | none => none

theorem steps_ix {call : CallF} : ∀ (post pre : List AOper) (S : St), stepsIx call (pre ++ post) (List.range' pre.length post.length) S = steps call post S
  | [], pre, S => rfl
  | o :: r, pre, S => by
    simp only [List.length_cons, List.range'_succ, stepsIx, steps]
    rw [List.getElem?_append_right (Nat.le_refl _), Nat.sub_self, List.getElem?_cons_zero]
    simp only
    cases step call o S with
    | none => rfl
    | some S1 =>
      simp only [Option.bind_some]
      have := steps_ix (call := call) r (pre ++ [o]) S1
      simp only [List.append_assoc, List.singleton_append, List.length_append, List.length_singleton] at this
      exact this

theorem stepsIx_append {call : CallF} {al : List AOper} : ∀ (a b : List Nat) (S : St), stepsIx call al (a ++ b) S = (stepsIx call al a S).bind (stepsIx call al b)
  | [], b, S => rfl
  | i :: r, b, S => by
    simp only [List.cons_append, stepsIx]
    cases al[i]? with
    | none => rfl
    | some o =>
      simp only
      cases step call o S with
      | none => rfl
      | some S1 => simp only [Option.bind_some]; exact stepsIx_append r b S1

/-- One may go first, if it is free of all before it. -/
theorem stepsIx_first {call : CallF} {al : List AOper} {i : Nat} {o : AOper} (hi : al[i]? = some o) : ∀ (pre post : List Nat) (S : St), (∀ p ∈ pre, ∃ b, al[p]? = some b ∧ free b o = true) → stepsIx call al (pre ++ i :: post) S = stepsIx call al (i :: (pre ++ post)) S
  | [], post, S, _ => rfl
  | p :: r, post, S, h => by
    obtain ⟨b, hb, hf⟩ := h p (by simp)
    have ih := fun S => stepsIx_first (call := call) hi r post S fun q hq => h q (by simp [hq])
    simp only [List.cons_append, stepsIx, hb, hi]
    have e1 : ∀ S, stepsIx call al (r ++ i :: post) S = (step call o S).bind (stepsIx call al (r ++ post)) := fun S => by rw [ih S]; simp only [stepsIx, hi]
    have e2 : stepsIx call al (r ++ i :: post) = fun S => (step call o S).bind (stepsIx call al (r ++ post)) := funext e1
    have e3 : stepsIx call al (p :: (r ++ post)) = fun S => (step call b S).bind (stepsIx call al (r ++ post)) := by funext S; simp only [stepsIx, hb]
    rw [e2]
    show (step call b S).bind (fun S => (step call o S).bind (stepsIx call al (r ++ post))) = (step call o S).bind (fun S => (step call b S).bind (stepsIx call al (r ++ post)))
    rw [← Option.bind_assoc, ← Option.bind_assoc, free_comm hf S]

/-! ### What waits for what -/

theorem foldl_bits (acc : List Nat) (j : Nat) : ∀ (l : List Edge) (s : Nat), (l.foldl (fun s e => if Region.binds .any e then s ||| 2 ^ e.on ||| acc.getD e.on 0 else s) s).testBit j = true → s.testBit j = true ∨ ∃ e ∈ l, Region.binds .any e = true ∧ (e.on = j ∨ (acc.getD e.on 0).testBit j = true)
  | [], s, h => .inl h
  | e :: r, s, h => by
    simp only [List.foldl_cons] at h
    rcases foldl_bits acc j r _ h with h1 | ⟨e', he, hb, h2⟩
    · cases hb : Region.binds .any e
      · simp only [hb, Bool.false_eq_true, if_false] at h1; exact .inl h1
      · simp only [hb, if_true, Nat.testBit_or, Bool.or_eq_true] at h1
        rcases h1 with (h1 | h1) | h1
        · exact .inl h1
        · rw [Nat.testBit_two_pow] at h1
          exact .inr ⟨e, by simp, hb, .inl (by simpa using h1)⟩
        · exact .inr ⟨e, by simp, hb, .inr h1⟩
    · exact .inr ⟨e', by simp [he], hb, h2⟩

theorem befs_len : ∀ (l : List Oper) (acc : List Nat), (befs l acc).length = acc.length + l.length
  | [], acc => by simp [befs]
  | o :: r, acc => by rw [befs, befs_len r]; simp; omega

theorem befs_pre : ∀ (l : List Oper) (acc : List Nat) (j : Nat), j < acc.length → (befs l acc).getD j 0 = acc.getD j 0
  | [], acc, j, _ => rfl
  | o :: r, acc, j, h => by
    rw [befs, befs_pre r _ j (by simp; omega)]
    simp [List.getElem?_append_left h]

theorem befs_at : ∀ (l : List Oper) (acc : List Nat) (j : Nat) (h : j < l.length), ∃ acc', (befs l acc).getD (acc.length + j) 0 = maskOf acc' l[j] ∧ (∀ k, k < acc.length + j → acc'.getD k 0 = (befs l acc).getD k 0) ∧ acc'.length = acc.length + j
  | o :: r, acc, 0, _ => ⟨acc, by
      rw [befs, Nat.add_zero, befs_pre r _ _ (by simp)]
      simp, fun k hk => by rw [befs, befs_pre r _ _ (by simp; omega)]; simp [List.getElem?_append_left (show k < acc.length by omega)], by simp⟩
  | o :: r, acc, j + 1, h => by
    obtain ⟨acc', h1, h2, h3⟩ := befs_at r (acc ++ [maskOf acc o]) j (by simpa using h)
    simp only [List.length_append, List.length_singleton] at h1 h2 h3
    refine ⟨acc', ?_, fun k hk => ?_, by omega⟩
    · rw [befs, show acc.length + (j + 1) = acc.length + 1 + j by omega, h1]; rfl
    · rw [befs, h2 k (by omega)]

theorem edges_of : ∀ (l : List Oper) (k : Nat), edgesOk k l = true → ∀ j (h : j < l.length) e, e ∈ l[j].after.toList → Region.binds .any e = true → e.on < k + j
  | o :: r, k, h, 0, _, e, he, hb => by
    simp only [edgesOk, Bool.and_eq_true, List.all_eq_true, Bool.or_eq_true, Bool.not_eq_true', Nat.blt_eq] at h
    rcases h.1 e he with h1 | h1
    · rw [hb] at h1; cases h1
    · simpa using h1
  | o :: r, k, h, j + 1, hj, e, he, hb => by
    simp only [edgesOk, Bool.and_eq_true] at h
    have := edges_of r (k + 1) h.2 j (by simpa using hj) e (by simpa using he) hb
    omega

/-- What is listed holds what it waits for. -/
def Closed (ops : Array Oper) (listed : Array Bool) : Prop := ∀ j, listed.getD j false = true → ∀ o, ops[j]? = some o → ∀ e ∈ o.after.toList, Region.binds .any e = true → listed.getD e.on false = true

theorem bits_listed {ops : Array Oper} {listed : Array Bool} (he : edgesOk 0 ops.toList = true) (hc : Closed ops listed) : ∀ (j : Nat) (o : Oper), ops[j]? = some o → (∀ e ∈ o.after.toList, Region.binds .any e = true → listed.getD e.on false = true) →
    ∀ i, ((befs ops.toList []).getD j 0).testBit i = true → listed.getD i false = true := by
  intro j
  induction j using Nat.strongRecOn with
  | _ j ih =>
    intro o ho hl i hb
    have hj : j < ops.toList.length := by
      have := (Array.getElem?_eq_some_iff.1 ho).1; simpa using this
    obtain ⟨acc', h1, h2, h3⟩ := befs_at ops.toList [] j hj
    simp only [List.length_nil, Nat.zero_add] at h1 h2 h3
    have hoj : ops.toList[j] = o := by
      obtain ⟨_, e⟩ := Array.getElem?_eq_some_iff.1 ho; simpa using e
    rw [h1, hoj] at hb
    rcases foldl_bits acc' i _ 0 hb with hb | ⟨e, he', hbind, hb⟩
    · simp at hb
    · have hlt := edges_of ops.toList 0 he j hj e (by rw [hoj]; exact he') hbind
      rw [Nat.zero_add] at hlt
      have hle := hl e he' hbind
      rcases hb with rfl | hb
      · exact hle
      · rw [h2 e.on hlt] at hb
        have hlt' : e.on < ops.size := by simp at hj; omega
        exact ih e.on hlt ops[e.on] (by simp [hlt']) (fun e2 he2 hb2 => hc e.on hle _ (by simp [hlt']) e2 he2 hb2) i hb

section
variable {C : Ctx} {A K : Nat → Nat} {S : St} {a : Act} {w : World}

theorem cOpers_get {I : Info} {ops : Array Oper} : ∀ {l : List Oper} {al : List AOper}, cOpers I ops l = some al → l.length = al.length ∧ ∀ j (h1 : j < l.length) (h2 : j < al.length), cOper I ops l[j] = some al[j]
  | [], al, h => by simp only [cOpers, Option.some.injEq] at h; subst h; exact ⟨rfl, fun j h => by simp at h⟩
  | o :: r, al, h => by
    simp only [cOpers] at h
    cases ho : cOper I ops o with
    | none => simp [ho] at h
    | some x =>
      cases hr : cOpers I ops r with
      | none => simp [ho, hr] at h
      | some l =>
        simp only [ho, hr, Option.some.injEq] at h
        subst h
        obtain ⟨i1, i2⟩ := cOpers_get hr
        refine ⟨by simp [i1], fun j h1 h2 => ?_⟩
        cases j with
        | zero => exact ho
        | succ j => exact i2 j (by simpa using h1) (by simpa using h2)

structure Same (I : Info) (C : Ctx) : Prop where
  P : I.P = C.E.P
  T : I.T = C.E.T
  np : I.np = C.np
  nt : I.nt = C.nt

/-- A region in the text's order. -/
theorem region_seq {I : Info} (hI : Same I C) (hE : EnvOk C.E I.sents) {call : CallF} (hC : CallSound C.E call) {ops : Array Oper} {al : List AOper} (hal : cOpers I ops ops.toList = some al) {Q : Exit → Act → World → Prop} {Sf : St}
    (hQ : ∀ A' K' a' w', Rel C A' K' Sf a' w' → Q .normal a' w') : ∀ (n k : Nat), k + n = ops.size → ∀ {A K : Nat → Nat} {S : St} {a : Act} {w : World}, Rel C A K S a w → stepsIx call al (List.range' k n) S = some Sf → wpOps C.E.P ops Q (List.range' k n) a w := by
  obtain ⟨g1, g2⟩ := cOpers_get hal
  intro n
  induction n with
  | zero => intro k _ A K S a w R h; simp only [List.range', stepsIx, Option.some.injEq] at h; subst h; exact hQ _ _ _ _ R
  | succ n ih =>
    intro k hk A K S a w R h
    simp only [List.range'_succ, stepsIx] at h ⊢
    rw [wpOps_cons]
    have hkl : k < ops.toList.length := by simp; omega
    have hka : k < al.length := by omega
    rw [List.getElem?_eq_getElem hka] at h
    simp only [Option.bind_eq_some_iff] at h
    obtain ⟨S1, h1, h2⟩ := h
    have hop : ops[k]? = some ops.toList[k] := by simp at hkl ⊢
    exact step_sound ⟨hI.P, hI.T, hI.np, hI.nt⟩ hE hC R hop (g2 k hkl hka) h1 fun A' K' a' w' R' => ih (k + 1) (by omega) R' h2

theorem getD_both {listed : Array Bool} {i : Nat} (h : listed.getD i true = false) : listed.getD i false = false := by
  simp only [Array.getD_eq_getD_getElem?] at h ⊢
  cases hq : listed[i]? with
  | none => rfl
  | some b => rw [hq] at h; simpa using h

theorem ready_iff {ops : Array Oper} {listed : Array Bool} {i : Nat} : i ∈ Region.ready .any ops listed ↔ i < ops.size ∧ listed.getD i true = false ∧ ∃ o, ops[i]? = some o ∧ ∀ e ∈ o.after.toList, Region.binds .any e = true → listed.getD e.on false = true := by
  unfold Region.ready
  simp only [List.mem_filter, List.mem_range, Bool.and_eq_true, Bool.not_eq_true']
  refine and_congr_right fun hi => and_congr_right fun _ => ?_
  rw [Array.getElem?_eq_getElem hi]
  simp only [Option.map_some, Option.getD_some, Option.some.injEq, exists_eq_left', Array.all_eq_true_iff_forall_mem, Bool.or_eq_true, Bool.not_eq_true', Array.mem_toList_iff]
  constructor
  · intro h e he hb
    rcases h e he with h1 | h1
    · rw [hb] at h1; cases h1
    · exact h1
  · intro h e he
    cases hb : Region.binds .any e
    · exact .inl rfl
    · exact .inr (h e he hb)

/-- A region in any order. -/
theorem region_any {I : Info} (hI : Same I C) (hE : EnvOk C.E I.sents) {call : CallF} (hC : CallSound C.E call) {ops : Array Oper} {al : List AOper} (hal : cOpers I ops ops.toList = some al) (hd : drawOk ops al = true) {Q : Exit → Act → World → Prop} {Sf : St}
    (hQ : ∀ A' K' a' w', Rel C A' K' Sf a' w' → Q .normal a' w') : ∀ (fuel : Nat) (listed : Array Bool) (rem : List Nat), rem.Pairwise (· < ·) → (∀ j, j ∈ rem ↔ j < ops.size ∧ listed.getD j true = false) → rem.length = fuel → listed.size = ops.size → Closed ops listed →
    ∀ {A K : Nat → Nat} {S : St} {a : Act} {w : World}, Rel C A K S a w → stepsIx call al rem S = some Sf → wpAny C.E.P .any ops Q fuel listed a w := by
  obtain ⟨g1, g2⟩ := cOpers_get hal
  simp only [drawOk, Bool.and_eq_true] at hd
  obtain ⟨hed, hpairs⟩ := hd
  intro fuel
  induction fuel with
  | zero =>
    intro listed rem hp hm hlen hsz hcl A K S a w R h
    have : rem = [] := List.length_eq_zero_iff.1 hlen
    subst this
    simp only [stepsIx, Option.some.injEq] at h
    subst h
    refine ⟨?_, hQ _ _ _ _ R⟩
    cases hr : Region.ready .any ops listed with
    | nil => rfl
    | cons i r =>
      have : i ∈ Region.ready .any ops listed := by rw [hr]; simp
      obtain ⟨h1, h2, _⟩ := ready_iff.1 this
      exact absurd ((hm i).2 ⟨h1, h2⟩) (by simp)
  | succ fuel ih =>
    intro listed rem hp hm hlen hsz hcl A K S a w R h
    refine ⟨fun hr => ?_, fun i hi => ?_⟩
    · -- the first that is left waits for none
      exfalso
      match rem, hlen with
      | i :: r, _ =>
        obtain ⟨h1, h2⟩ := (hm i).1 (by simp)
        have : i ∈ Region.ready .any ops listed := ready_iff.2 ⟨h1, h2, ops[i], by simp [h1], fun e he hb => by
          have hlt := edges_of ops.toList 0 hed i (by simpa using h1) e (by simpa using he) hb
          rw [Nat.zero_add] at hlt
          cases hq : listed.getD e.on false
          · exfalso
            have hin : e.on < listed.size := by omega
            have : listed.getD e.on true = false := by
              simp only [Array.getD_eq_getD_getElem?, Array.getElem?_eq_getElem hin] at hq ⊢; simpa using hq
            have hmem := (hm e.on).2 ⟨by omega, this⟩
            rcases List.mem_cons.1 hmem with h3 | h3
            · omega
            · have := (List.pairwise_cons.1 hp).1 _ h3; omega
          · rfl⟩
        rw [hr] at this; cases this
    · obtain ⟨h1, h2, o, ho, hpre⟩ := ready_iff.1 hi
      have himem := (hm i).2 ⟨h1, h2⟩
      obtain ⟨pre, post, rfl⟩ := List.append_of_mem himem
      have hial : i < al.length := by simp at g1; omega
      have hpw := List.pairwise_append.1 hp
      have hlt : ∀ p ∈ pre, p < i := fun p hp' => hpw.2.2 p hp' i (by simp)
      have hfirst := stepsIx_first (call := call) (al := al) (i := i) (o := al[i]) (by simp [hial]) pre post S fun p hp' => by
        have hpi := hlt p hp'
        have hpal : p < al.length := by omega
        refine ⟨al[p], by simp [hpal], ?_⟩
        simp only [pairsOk, List.all_eq_true, List.mem_range, Bool.or_eq_true] at hpairs
        rcases hpairs i hial p hpi with hb | hb
        · exfalso
          have := bits_listed hed hcl i o ho hpre p hb
          have hp2 := ((hm p).1 (by simp [hp'])).2
          rw [getD_both hp2] at this; cases this
        · simpa [hpal, hial] using hb
      rw [hfirst] at h
      simp only [stepsIx, List.getElem?_eq_getElem hial, Option.bind_eq_some_iff] at h
      obtain ⟨S1, hs1, hs2⟩ := h
      have hio : ops.toList[i]'(by simpa using h1) = o := by
        obtain ⟨_, e⟩ := Array.getElem?_eq_some_iff.1 ho; simpa using e
      refine step_sound ⟨hI.P, hI.T, hI.np, hI.nt⟩ hE hC R ho (by rw [← hio]; exact g2 i (by simpa using h1) hial) hs1 fun A' K' a' w' R' => ?_
      have hnodup : ∀ q, q ∈ pre ++ post → q ≠ i := fun q hq e => by
        subst e
        rcases List.mem_append.1 hq with hq | hq
        · have := hlt q hq; omega
        · have := (List.pairwise_cons.1 hpw.2.1).1 q hq; omega
      have hget : ∀ j d, (listed.setIfInBounds i true).getD j d = if j = i then true else listed.getD j d := fun j d => by
        simp only [Array.getD_eq_getD_getElem?, Array.getElem?_setIfInBounds]
        by_cases hji : i = j
        · subst hji
          have : i < listed.size := by omega
          simp [this]
        · simp [hji, show ¬ j = i from fun e => hji e.symm]
      refine ih (listed.setIfInBounds i true) (pre ++ post) ?_ (fun j => ?_) (by simp at hlen ⊢; omega) (by simpa using hsz) ?_ R' hs2
      · refine List.pairwise_append.2 ⟨hpw.1, (List.pairwise_cons.1 hpw.2.1).2, fun p hp' q hq => hpw.2.2 p hp' q (by simp [hq])⟩
      · rw [hget]
        constructor
        · intro hj
          have := (hm j).1 (by rcases List.mem_append.1 hj with h | h <;> simp [h])
          rw [if_neg (hnodup j hj)]
          exact this
        · rintro ⟨h3, h4⟩
          by_cases hji : j = i
          · rw [if_pos hji] at h4; cases h4
          · rw [if_neg hji] at h4
            have := (hm j).2 ⟨h3, h4⟩
            rcases List.mem_append.1 this with h | h
            · simp [h]
            · rcases List.mem_cons.1 h with h | h
              · exact absurd h hji
              · simp [h]
      · intro j hj p hp' e he hb
        rw [hget] at hj ⊢
        by_cases hei : e.on = i
        · rw [if_pos hei]
        · rw [if_neg hei]
          by_cases hji : j = i
          · subst hji
            rw [ho] at hp'; cases hp'
            exact hpre e he hb
          · rw [if_neg hji] at hj
            exact hcl j hj p hp' e he hb

/-- A REGION. -/
theorem region_sound {I : Info} (hI : Same I C) (hE : EnvOk C.E I.sents) {call : CallF} (hC : CallSound C.E call) {id : Nat} {ops : Array Oper} {draw : Bool} {al : List AOper} (hal : cOpers I ops ops.toList = some al) (hd : (!draw || drawOk ops al) = true) (R : Rel C A K S a w) {Sf : St}
    (h : steps call al S = some Sf) {Q : Exit → Act → World → Prop} (hQ : ∀ A' K' a' w', Rel C A' K' Sf a' w' → Q .normal a' w') : (Code.region id ops draw).wp C.E.P Q a w := by
  obtain ⟨g1, g2⟩ := cOpers_get hal
  have hlen : al.length = ops.size := by simpa using g1.symm
  have hix := steps_ix (call := call) al [] S
  simp only [List.nil_append, List.length_nil] at hix
  rw [h, hlen] at hix
  cases draw with
  | false =>
    refine wp_region ?_
    rw [List.range_eq_range']
    exact region_seq hI hE hC hal hQ ops.size 0 (by omega) R hix
  | true =>
    have hd' : drawOk ops al = true := by simpa using hd
    refine wp_region_any hE.mixed ?_
    refine region_any hI hE hC hal hd' hQ ops.size (Array.replicate ops.size false) (List.range ops.size) List.pairwise_lt_range (fun j => ?_) (by simp) (by simp) ?_ (R.grew (Grew.drew w)) (by rw [List.range_eq_range']; exact hix)
    · simp only [List.mem_range, Array.getD_eq_getD_getElem?]
      constructor
      · intro hj; exact ⟨hj, by simp [hj]⟩
      · exact fun h => h.1
    · intro j hj
      simp only [Array.getD_eq_getD_getElem?] at hj
      exfalso
      by_cases hjl : j < ops.size <;> simp [hjl] at hj

end
end Zab
