/- Lists of vectors, hints, as cells; their bytes. No statement of the program stands here. -/
import Derived.Test.YtbmhaamjajoggaaDoorZabG8
import Derived.Test.YtbmhaamjajoggaaDoorZabG6
import Derived.Test.YtbmhaamjajoggaaDoorZabG7
namespace Zab
open Go
set_option linter.unusedVariables false
set_option linter.unusedSimpArgs false

/-- Rows handed over go. -/
theorem afterK_ch (S : St) (d : Nat) (ch : List Nat) : afterK S [] (d :: ch) [] = some (S.kills (d :: ch)) := by
  show some _ = some _
  simp only [keys, List.map_nil, List.append_nil, putRows]
/-- A slice of truths, or none. -/
def IsB (x : AV) (B : List Bool) : Prop := x = .sl (bools B) B.length ∨ (x = .z ∧ B = [])
section
variable {x : AV} {B : List Bool}
theorem IsB.flat (h : IsB x B) : x.flat = true := by rcases h with rfl | ⟨rfl, _⟩ <;> rfl
theorem lenV_isB (h : IsB x B) : lenV x = some (.i .i64 B.length) := by rcases h with rfl | ⟨rfl, rfl⟩ <;> rfl
theorem ixSV_isB (h : IsB x B) {k' : IntKind} {j : Int} (h0 : 0 ≤ j) (h1 : j < B.length) : ixSV 1 x (.i k' j) = some (.el (bools B) j.toNat) := by
  rcases h with rfl | ⟨rfl, rfl⟩
  · rw [ixSV_sl h0 h1 (by rw [bools_length]; omega), Nat.mul_one]
  · simp at h1; omega
end
/-- A slice of such, or none. -/
structure IsW {α : Type} (E : AV → α → Prop) (x : AV) (xs : List AV) (As : List α) : Prop where
  ex : x = .sl xs xs.length ∨ (x = .z ∧ xs = [])
  len : xs.length = As.length
  ls : ∀ j (h1 : j < xs.length) (h2 : j < As.length), E xs[j] As[j]
section
variable {α : Type} {E : AV → α → Prop} {x : AV} {xs : List AV} {As : List α}
theorem IsW.flat (h : IsW E x xs As) : x.flat = true := by rcases h.ex with rfl | ⟨rfl, _⟩ <;> rfl
theorem IsW.lenV (h : IsW E x xs As) : Zab.lenV x = some (.i .i64 As.length) := by rw [← h.len]; rcases h.ex with rfl | ⟨rfl, rfl⟩ <;> rfl
theorem ixSV_ex (h : x = .sl xs xs.length ∨ (x = .z ∧ xs = [])) {k : Nat} (hk : k < xs.length) : ixSV 1 x (.i .i64 (k : Int)) = some (.el xs k) := by
  rcases h with rfl | ⟨rfl, rfl⟩
  · have b1 : Nat.blt k xs.length = true := by simpa using hk
    simp [ixSV, b1, hk]
  · simp at hk
theorem lenV_ex (h : x = .sl xs xs.length ∨ (x = .z ∧ xs = [])) : Zab.lenV x = some (.i .i64 xs.length) := by rcases h with rfl | ⟨rfl, rfl⟩ <;> rfl
theorem flat_ex (h : x = .sl xs xs.length ∨ (x = .z ∧ xs = [])) : x.flat = true := by rcases h with rfl | ⟨rfl, _⟩ <;> rfl
theorem IsW.ix (h : IsW E x xs As) {k : Nat} (hk : k < As.length) : ixSV 1 x (.i .i64 (k : Int)) = some (.el xs k) := ixSV_ex h.ex (by rw [h.len]; exact hk)
theorem IsW.get (h : IsW E x xs As) {k : Nat} (hk : k < As.length) : ∃ u, xs[k]? = some u ∧ E u As[k] :=
  ⟨xs[k]'(by rw [h.len]; exact hk), List.getElem?_eq_getElem _, h.ls k (by rw [h.len]; exact hk) hk⟩
end
theorem IsVecs.isW {k : IntKind} {x : AV} {xs : List AV} {Ls : List (List Int)} (h : IsVecs k x xs Ls) : IsW (IsL k) x xs Ls := ⟨h.1, h.2.1, fun j h1 h2 => (h.2.2 j h1 h2).isL⟩
theorem isW_vecs (k : IntKind) (Ls : List (List Int)) : IsW (IsL k) (.sl (vecs k Ls) Ls.length) (vecs k Ls) Ls :=
  ⟨.inl (by rw [vecs_length]), vecs_length k Ls, fun j h1 h2 => .inl (by simp [vecs])⟩
def hins (Bs : List (List Bool)) : List AV := Bs.map fun B => .sl (bools B) B.length
theorem hins_length (Bs : List (List Bool)) : (hins Bs).length = Bs.length := by simp [hins]
theorem hins_snoc (Bs : List (List Bool)) (B : List Bool) : hins Bs ++ [.sl (bools B) B.length] = hins (Bs ++ [B]) := by simp [hins]
theorem isW_hins (Bs : List (List Bool)) : IsW IsB (.sl (hins Bs) Bs.length) (hins Bs) Bs :=
  ⟨.inl (by rw [hins_length]), hins_length Bs, fun j h1 h2 => .inl (by simp [hins])⟩

/-! ### Arguments of these forms -/
theorem bool_singles : ∀ (xs : List (List AV)), (∀ x ∈ xs, ∃ b, x = [.b b]) → ∃ B : List Bool, B.length = xs.length ∧ xs.flatten = bools B
  | [], _ => ⟨[], rfl, rfl⟩
  | x :: r, h => by
    obtain ⟨n, rfl⟩ := h x (by simp)
    obtain ⟨L, h1, h2⟩ := bool_singles r (fun y hy => h y (by simp [hy]))
    exact ⟨n :: L, by simp [h1], by simp [h2, bools]⟩
theorem isB_of {l : List AV} (h : l = [.z] ∨ ∃ xs : List (List AV), (∀ x ∈ xs, ∃ b, x = [.b b]) ∧ l = [.sl xs.flatten xs.length]) : ∃ x B, l = [x] ∧ IsB x B := by
  rcases h with rfl | ⟨xs, h1, rfl⟩
  · exact ⟨_, [], rfl, .inr ⟨rfl, rfl⟩⟩
  · obtain ⟨L, h2, h3⟩ := bool_singles xs h1
    exact ⟨_, L, rfl, .inl (by rw [h3, ← h2])⟩
theorem isHs_of {l : List AV} (h : l = [.z] ∨ ∃ xs : List (List AV), (∀ x ∈ xs, (x = [.z] ∨ ∃ ys : List (List AV), (∀ y ∈ ys, ∃ b, y = [.b b]) ∧ x = [.sl ys.flatten ys.length])) ∧ l = [.sl xs.flatten xs.length]) :
    ∃ x xs Bs, l = [x] ∧ IsW IsB x xs Bs := by
  rcases h with rfl | ⟨xs, h1, rfl⟩
  · exact ⟨_, [], [], rfl, .inr ⟨rfl, rfl⟩, rfl, fun j h => by simp at h⟩
  · have key : ∀ ys : List (List AV), (∀ x ∈ ys, (x = [.z] ∨ ∃ zs : List (List AV), (∀ y ∈ zs, ∃ b, y = [.b b]) ∧ x = [.sl zs.flatten zs.length])) → ∃ us : List AV, ∃ Ls : List (List Bool), ys.flatten = us ∧ us.length = ys.length ∧ us.length = Ls.length ∧ ∀ j (h1 : j < us.length) (h2 : j < Ls.length), IsB us[j] Ls[j] := by
      intro ys
      induction ys with
      | nil => intro _; exact ⟨[], [], rfl, rfl, rfl, fun j h => by simp at h⟩
      | cons y r ih =>
        intro h
        obtain ⟨us, Ls, e1, e2, e3, e4⟩ := ih (fun z hz => h z (by simp [hz]))
        obtain ⟨x, L, rfl, hx⟩ := isB_of (h y (by simp))
        refine ⟨x :: us, L :: Ls, by simp [e1], by simp [e2], by simp [e3], fun j p q => ?_⟩
        cases j with
        | zero => exact hx
        | succ j => exact e4 j (by simpa using p) (by simpa using q)
    obtain ⟨us, Ls, e1, e2, e3, e4⟩ := key xs h1
    exact ⟨_, us, Ls, rfl, .inl (by rw [e1, e2]), e3, e4⟩

/-! ### Numbers between bounds, as bytes -/
def Rng (low high : Int) (L : List Int) : Prop := ∀ a ∈ L, -low ≤ a ∧ a ≤ high
instance (low high : Int) (L : List Int) : Decidable (Rng low high L) := inferInstanceAs (Decidable (∀ a ∈ L, _))
theorem Rng.of_ni {low high : Int} {L : List Int} (h : ∀ j, j < L.length → -low ≤ ni L j ∧ ni L j ≤ high) : Rng low high L := fun a ha => by
  obtain ⟨j, hj, e⟩ := List.mem_iff_getElem.1 ha
  have := h j hj
  rw [ni_get hj, e] at this
  exact this
theorem Rng.ni {low high : Int} {L : List Int} (h : Rng low high L) {j : Nat} (hj : j < L.length) : -low ≤ Zab.ni L j ∧ Zab.ni L j ≤ high := by
  rw [ni_get hj]; exact h _ (List.getElem_mem hj)
/-- How far each is below the bound. -/
def bel (high : Int) (L : List Int) : List Int := L.map fun a => high - a
theorem bel_len (high : Int) (L : List Int) : (bel high L).length = L.length := by simp [bel]
theorem bel_ni (high : Int) {L : List Int} {j : Nat} (hj : j < L.length) : ni (bel high L) j = high - ni L j := by simp [ni, bel, hj]
theorem bel_in {low high : Int} {d : Nat} {L : List Int} (h : Rng low high L) (hd : low + high < ((2 ^ d : Nat) : Int)) : ∀ y ∈ bel high L, InB d y := fun y hy => by
  obtain ⟨a, ha, rfl⟩ := List.mem_map.1 hy
  have := h a ha
  exact ⟨by omega, by omega⟩
def sgB (high : Int) (d : Nat) (L : List Int) : List Int := bytL (num d (bel high L)) (d * L.length / 8)
theorem sgB_len (high : Int) (d : Nat) (L : List Int) : (sgB high d L).length = d * L.length / 8 := bytL_len _ _
theorem sgB_in (high : Int) (d : Nat) (L : List Int) : ∀ y ∈ sgB high d L, inK .u8 y := bytL_in _ _
def sgA (high : Int) (d : Nat) (Ls : List (List Int)) : List Int := (Ls.map (sgB high d)).flatten
theorem take_one {α : Type} {l : List α} {k : Nat} (hk : k < l.length) : l.take (k + 1) = l.take k ++ [l[k]] := by
  rw [List.take_add_one, List.getElem?_eq_getElem hk]; rfl
theorem sgA_next (high : Int) (d : Nat) {Ls : List (List Int)} {k : Nat} (hk : k < Ls.length) : sgA high d (Ls.take (k + 1)) = sgA high d (Ls.take k) ++ sgB high d Ls[k] := by
  rw [take_one hk]; simp only [sgA, List.map_append, List.flatten_append, List.map_cons, List.map_nil, List.flatten_cons, List.flatten_nil, List.append_nil]
theorem sgA_len (high : Int) (d : Nat) : ∀ {Ls : List (List Int)}, (∀ L ∈ Ls, L.length = 256) → (sgA high d Ls).length = Ls.length * (d * 32)
  | [], _ => by simp [sgA]
  | L :: r, h => by
    have ih := sgA_len high d (Ls := r) fun M hM => h M (by simp [hM])
    have e : d * L.length / 8 = d * 32 := by rw [h L (by simp)]; omega
    simp only [sgA, List.map_cons, List.flatten_cons, List.length_append, sgB_len, List.length_cons] at ih ⊢
    rw [ih, e, Nat.succ_mul]; omega
theorem sgA_in (high : Int) (d : Nat) (Ls : List (List Int)) : ∀ y ∈ sgA high d Ls, inK .u8 y := fun y hy => by
  obtain ⟨l, hl, hy⟩ := List.mem_flatten.1 hy
  obtain ⟨L, _, rfl⟩ := List.mem_map.1 hl
  exact sgB_in _ _ _ y hy

/-! ### Out of bytes -/
def opA (high : Int) (d n : Nat) (L : List Int) : List (List Int) := (List.range n).map fun j => sgnL high d (val ((L.drop (j * (32 * d))).take (32 * d))) 256
theorem opA_len (high : Int) (d n : Nat) (L : List Int) : (opA high d n L).length = n := by simp [opA]
theorem opA_next (high : Int) (d n : Nat) (L : List Int) : opA high d (n + 1) L = opA high d n L ++ [sgnL high d (val ((L.drop (n * (32 * d))).take (32 * d))) 256] := by simp [opA, List.range_succ]

/-! ### Hints as bytes -/
def plcTo (B : List Bool) (k : Nat) : List Int := ((List.range k).filter (nb B)).map fun (j : Nat) => (j : Int)
theorem plcTo_t {B : List Bool} {k : Nat} (h : nb B k = true) : plcTo B (k + 1) = plcTo B k ++ [(k : Int)] := by simp [plcTo, List.range_succ, h]
theorem plcTo_f {B : List Bool} {k : Nat} (h : nb B k = false) : plcTo B (k + 1) = plcTo B k := by simp [plcTo, List.range_succ, h]
theorem plcTo_le (B : List Bool) (k : Nat) : (plcTo B k).length ≤ k := by
  have := List.length_filter_le (nb B) (List.range k)
  simpa [plcTo] using this
theorem plcTo_mono (B : List Bool) {k m : Nat} (h : k ≤ m) : (plcTo B k).length ≤ (plcTo B m).length := by
  induction h with
  | refl => exact Nat.le_refl _
  | step h ih =>
    rename_i m
    cases hb : nb B m with
    | true => rw [plcTo_t hb]; simp; omega
    | false => rw [plcTo_f hb]; exact ih
def plcA (Bs : List (List Bool)) : List Int := (Bs.map fun B => plcTo B 256).flatten
theorem plcA_next {Bs : List (List Bool)} {k : Nat} (hk : k < Bs.length) : plcA (Bs.take (k + 1)) = plcA (Bs.take k) ++ plcTo Bs[k] 256 := by
  rw [take_one hk]; simp only [plcA, List.map_append, List.flatten_append, List.map_cons, List.map_nil, List.flatten_cons, List.flatten_nil, List.append_nil]
theorem plcA_mono (Bs : List (List Bool)) (k : Nat) : (plcA (Bs.take k)).length ≤ (plcA Bs).length := by
  have : Bs = Bs.take k ++ Bs.drop k := (List.take_append_drop k Bs).symm
  conv => rhs; rw [this]
  simp only [plcA, List.map_append, List.flatten_append, List.length_append]
  omega
/-- How many there are behind each. -/
def endA (Bs : List (List Bool)) (k : Nat) : List Int := (List.range k).map fun i => (((plcA (Bs.take (i + 1))).length : Nat) : Int)
theorem endA_len (Bs : List (List Bool)) (k : Nat) : (endA Bs k).length = k := by simp [endA]
theorem endA_next (Bs : List (List Bool)) (k : Nat) : endA Bs (k + 1) = endA Bs k ++ [(((plcA (Bs.take (k + 1))).length : Nat) : Int)] := by simp [endA, List.range_succ]
def zs (n : Nat) : List Int := List.replicate n 0
def outH (om K : Nat) (P E : List Int) : List Int := P ++ (zs (om - P.length) ++ (E ++ zs (K - E.length)))
theorem outH_len {om K : Nat} {P E : List Int} (h1 : P.length ≤ om) (h2 : E.length ≤ K) : (outH om K P E).length = om + K := by
  simp [outH, zs]; omega
theorem zs_set {n : Nat} (h : 0 < n) (v : Int) : (zs n).set 0 v = v :: zs (n - 1) := by
  cases n with
  | zero => omega
  | succ n => simp [zs, List.replicate_succ]
theorem outH_place {om K : Nat} {P E : List Int} (h1 : P.length < om) (v : Int) : (outH om K P E).set P.length v = outH om K (P ++ [v]) E := by
  unfold outH
  rw [List.set_append_right _ _ (Nat.le_refl _), Nat.sub_self, List.set_append_left _ _ (by simp [zs]; omega), zs_set (by omega)]
  simp only [List.length_append, List.length_singleton, List.append_assoc, List.cons_append, List.nil_append]
  rw [show om - P.length - 1 = om - (P.length + 1) by omega]
theorem outH_end {om K : Nat} {P E : List Int} (h1 : P.length ≤ om) (h2 : E.length < K) (v : Int) : (outH om K P E).set (om + E.length) v = outH om K P (E ++ [v]) := by
  unfold outH
  rw [List.set_append_right _ _ (by omega), List.set_append_right _ _ (by simp [zs]; omega), List.set_append_right _ _ (by simp [zs]; omega)]
  have e : om + E.length - P.length - (zs (om - P.length)).length - E.length = 0 := by simp [zs]; omega
  rw [e, zs_set (by omega)]
  simp only [List.length_append, List.length_singleton, List.append_assoc, List.cons_append, List.nil_append]
  rw [show K - E.length - 1 = K - (E.length + 1) by omega]

/-! ### Hints out of bytes -/
open Classical in
noncomputable def rowB (L : List Int) (a e : Nat) : List Bool := (List.range 256).map fun (j : Nat) => decide (∃ k, a ≤ k ∧ k < e ∧ ni L k = (j : Int))
theorem rowB_len (L : List Int) (a e : Nat) : (rowB L a e).length = 256 := by unfold rowB; rw [List.length_map, List.length_range]
theorem rowB_zero (L : List Int) (a : Nat) : rowB L a a = List.replicate 256 false := by
  apply List.ext_getElem (by rw [rowB_len, List.length_replicate])
  intro j h1 h2
  simp only [rowB, List.getElem_map, List.getElem_range, List.getElem_replicate, decide_eq_false_iff_not]
  rintro ⟨k, p, q, _⟩
  omega
open Classical in
theorem rowB_get (L : List Int) (a e : Nat) {j : Nat} (h : j < (rowB L a e).length) : (rowB L a e)[j] = decide (∃ k, a ≤ k ∧ k < e ∧ ni L k = (j : Int)) := by
  simp only [rowB, List.getElem_map, List.getElem_range]
open Classical in
theorem rowB_set {L : List Int} {a e : Nat} (h : a ≤ e) (h0 : 0 ≤ ni L e) : (rowB L a e).set (ni L e).toNat true = rowB L a (e + 1) := by
  apply List.ext_getElem (by rw [List.length_set, rowB_len, rowB_len])
  intro j h1 h2
  rw [List.getElem_set, rowB_get, rowB_get]
  by_cases hj : (ni L e).toNat = j
  · rw [if_pos hj, eq_comm, decide_eq_true_iff]
    exact ⟨e, h, by omega, by omega⟩
  · rw [if_neg hj, decide_eq_decide]
    constructor
    · rintro ⟨k, p, q, r⟩; exact ⟨k, p, by omega, r⟩
    · rintro ⟨k, p, q, r⟩
      by_cases hk : k = e
      · subst hk; omega
      · exact ⟨k, p, by omega, r⟩
/-- Where the hints of the one begin. -/
def atH (L : List Int) (om i : Nat) : Int := if i = 0 then 0 else ni L (om + (i - 1))
/-- May the bytes of the one be? -/
def okI (L : List Int) (om i : Nat) : Prop := atH L om i ≤ ni L (om + i) ∧ ni L (om + i) ≤ om ∧ ∀ k, (atH L om i).toNat < k → k < (ni L (om + i)).toNat → ni L (k - 1) < ni L k
def okR (L : List Int) (om K : Nat) : Prop := (∀ i, i < K → okI L om i) ∧ ∀ k, (atH L om K).toNat ≤ k → k < om → ni L k = 0
noncomputable def hinR (L : List Int) (om K : Nat) : List (List Bool) := (List.range K).map fun i => rowB L (atH L om i).toNat (ni L (om + i)).toNat
theorem hinR_next (L : List Int) (om K : Nat) : hinR L om (K + 1) = hinR L om K ++ [rowB L (atH L om K).toNat (ni L (om + K)).toNat] := by simp [hinR, List.range_succ]
theorem hinR_len (L : List Int) (om K : Nat) : (hinR L om K).length = K := by simp [hinR]
theorem atH_next (L : List Int) (om i : Nat) : atH L om (i + 1) = ni L (om + i) := by simp [atH]
open Classical in
noncomputable instance (L : List Int) (om K : Nat) : Decidable (okR L om K) := inferInstance
end Zab
