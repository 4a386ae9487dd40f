/- Rounding. -/
import Derived.Test.YtcebddjidpbhgaaDoorBRef1
namespace Zab.YtcebddjidpbhgaaDoorB
open Go
open Go.IntWalk (i64_in)
set_option maxRecDepth 100000
set_option linter.unusedSimpArgs false
set_option linter.unusedVariables false
attribute [-simp] getElem?_pos
attribute [local simp ↓] W_loop W_seq W_skip W_ret W_exit W_reg W_cond W_block W_pre cleanO_some freezes_nil freezes_cons frzO_some andThen_normal andThen_ret andThen_exit unblock_normal unblock_ret unblock_exit Ends_normal Ends_ret steps_nil steps_cons step_some st_move st_pick st_bin st_un st_conv st_addr sv_ixA sv_ixS sv_fld sv_ixV st_ixStr st_ext sv_build sv_bsl sv_mkS st_mkfn sv_lenS sv_len st_mn st_mx st_nilChk st_tas st_slc sv_loadg sv_load st_call sv_store sv_box sv_alloc sv_mkR sv_bslR sv_nilR sv_app st_callK stepsAt_some onSome_some onB_true onB_false onG_tt onG_tf onG_ft onG_ff onG_un optPut_some optMem_some
attribute [local simp] evalO evalL constAV get_cons get_nil put_cons put_nil look_cons look_nil putD_some clean_mk freeze_mk mapS del_cons del_nil keepS_cons keepS_nil keepL_cons keepL_nil memb_cons memb_nil unV pureV convV_i addrV toArgs anyRs hasSl2L fromRetL finR resL resV toRets one Nat.beq Nat.ble shiftV_shr shiftV_shl IntKind.bits fillV List.getElem?_cons_zero List.getElem?_cons_succ List.length_cons List.length_nil List.set_cons_zero List.set_cons_succ setR2 setR3 zrep_eqs binV_i binI_shl binI_shr binI_eqs binV_eqs intV_quo intV_rem hasSlL mapR_eqs kill1_eqs frz1_eqs enterS_eqs enterL_eqs isRs_eqs toArg_eqs from1_eqs from_eqs toRet_eqs lentOf_eqs countR_eqs hasSl1_eqs hasSl2_eqs hasSl_eqs cellsOf_ag1 cellsOf_ag2 cellsOf_ag3 cellsOf_ag4 cellsOf_ag5 partV_2 partV_3 partV_4 partV_5 toRet_own ownR_of toArg_rs seenR_all seenR_part appS_rs appR_of srcV_sl srcV_z nilS_z bslS_some dec_t dec_f buildV_some bslV_some boxS_some root_mk ixSV_sl ixSV_rs ixAV_rf ixAV_el ixVV_ag fldV_ag lenV_sl lenV_rs lenV_z lenSV_s loadV_rf loadV_el loadR_some partV_none partV_all partV_some storeV_rf setR_one setR_all cellsOf_ag cellsOf_i cellsOf_b cellsOf_sl cellsOf_z cellsOf_er cellsOf_nl cellsOf_np cellsOf_s mkSV_of mkRS_of fl_map fl_kill fl_frz fl_enterS fl_enterL fl_lentOf fl_toArg fl_isRs fl_toRet fl_from1 fl_from fl_cells fl_countR nums_length nums_get nums_set nums_append nums_snoc nums_drop nums_take nums_zrep nums_hasSl bools_length bools_get bools_set bools_snoc bools_zrep bools_hasSl vecs_length vecs_get vecs_snoc slcV_sl idxO idx Nat.zero_add Nat.mul_one Nat.add_zero stepsAt_some onSome_some onB_true onB_false onG_tt onG_tf onG_ft onG_ff onG_un optPut_some optMem_some

/-- Two, so often. -/
def P (d : Int) : Int := 2 ^ d.toNat
theorem P_bound {d : Int} (h : 1 ≤ d) (h2 : d ≤ 30) : 2 ≤ P d ∧ P d ≤ 1073741824 := by
  unfold P
  have h1 : 1 ≤ d.toNat ∧ d.toNat ≤ 30 := by omega
  generalize d.toNat = n at *
  have e : ((2 ^ n : Nat) : Int) = (2 : Int) ^ n := by rw [Int.natCast_pow]; rfl
  rw [← e]
  have a1 : 2 ^ 1 ≤ 2 ^ n := Nat.pow_le_pow_right (by omega) h1.1
  have a2 : 2 ^ n ≤ 2 ^ 30 := Nat.pow_le_pow_right (by omega) h1.2
  omega
theorem P_half {d : Int} (h : 1 ≤ d) : P d = 2 * P (d - 1) := by
  unfold P
  have : d.toNat = (d - 1).toNat + 1 := by omega
  rw [this, Int.pow_succ]; omega
theorem shl_P {a d : Int} {b : Int} (h : 0 ≤ d) (h2 : d ≤ 64) (hb : b = a * P d) (w : -9223372036854775808 ≤ b ∧ b < 9223372036854775808) : shiftV .shl .i64 a d = some (.i .i64 b) := by
  subst hb
  rw [shiftV_shl h]
  have : min d.toNat IntKind.i64.bits = d.toNat := by simp only [IntKind.bits]; omega
  rw [this]
  have e : a * P d = a * 2 ^ d.toNat := rfl
  rw [e] at w ⊢
  rw [i64_in _ (by omega)]
theorem shr_P {a d : Int} (h : 0 ≤ d) (h2 : d ≤ 64) : shiftV .shr .i64 a d = some (.i .i64 (a / P d)) := by
  rw [shiftV_shr h]
  have : min d.toNat IntKind.i64.bits = d.toNat := by simp only [IntKind.bits]; omega
  rw [this]; rfl
theorem u64_in {a : Int} (h : 0 ≤ a) (h2 : a ≤ 9223372036854775807) : IntKind.u64.wrap a = a := by
  have : IntKind.u64.wrap a = a % 18446744073709551616 := by
    simp only [IntKind.wrap, IntKind.bits, IntKind.signed, Bool.false_and]
    rfl
  omega

/-- So many bits, and less than q. -/
def Bits (q d : Int) : Prop := 1 ≤ d ∧ d ≤ 30 ∧ P d < q
instance (q d : Int) : Decidable (Bits q d) := by unfold Bits; infer_instance
def fairBad (q n d : Int) : Nat := if valid q n ≠ 0 then 101 else if Bits q d then 0 else 101
theorem fairBad_code (q n d : Int) : Code (fairBad q n d) := by unfold fairBad Code; split <;> (try split) <;> simp
theorem valid_two (q n : Int) : valid q n = 0 ∨ valid q n = 101 := by unfold valid; split <;> simp

theorem rFair (q n d : Int) : FF tab 63 [(.ag [.i .i64 (q), .i .i64 (n)]), .i .i64 d] = some ⟨errV (fairBad q n d), []⟩ := by
  refine call_by (A := A63) rfl rfl ?_
  have hV := rValid q n
  rcases valid_two q n with hv | hv
  · rw [hv, show errV 0 = .nl from rfl] at hV
    by_cases h1 : d < 1
    · rw [show fairBad q n d = 101 by unfold fairBad; rw [if_neg (by omega), if_neg (by unfold Bits; omega)]]
      simp (disch := first | assumption | omega | (simp only [List.length_cons, List.length_nil, List.length_set, List.length_append, List.length_replicate, List.length_map, List.length_range, List.length_take, List.length_drop, nums_length, bools_length, vecs_length]; first | done | omega)) [A63, hV, h1, errV]
    · by_cases h2 : 30 < d
      · rw [show fairBad q n d = 101 by unfold fairBad; rw [if_neg (by omega), if_neg (by unfold Bits; omega)]]
        simp (disch := first | assumption | omega | (simp only [List.length_cons, List.length_nil, List.length_set, List.length_append, List.length_replicate, List.length_map, List.length_range, List.length_take, List.length_drop, nums_length, bools_length, vecs_length]; first | done | omega)) [A63, hV, h1, h2, errV]
      · have hp := P_bound (d := d) (by omega) (by omega)
        have s := shl_P (a := 1) (d := d) (b := P d) (by omega) (by omega) (by omega) (by omega)
        by_cases h3 : q ≤ P d
        · rw [show fairBad q n d = 101 by unfold fairBad; rw [if_neg (by omega), if_neg (by unfold Bits; omega)]]
          simp (disch := first | assumption | omega | (simp only [List.length_cons, List.length_nil, List.length_set, List.length_append, List.length_replicate, List.length_map, List.length_range, List.length_take, List.length_drop, nums_length, bools_length, vecs_length]; first | done | omega)) [A63, hV, h1, h2, h3, s, errV, -shiftV_shl]
        · rw [show fairBad q n d = 0 by unfold fairBad; rw [if_neg (by omega), if_pos (by unfold Bits; omega)]]
          simp (disch := first | assumption | omega | (simp only [List.length_cons, List.length_nil, List.length_set, List.length_append, List.length_replicate, List.length_map, List.length_range, List.length_take, List.length_drop, nums_length, bools_length, vecs_length]; first | done | omega)) [A63, hV, h1, h2, h3, s, errV, -shiftV_shl]
  · rw [show fairBad q n d = 101 by simp [fairBad, hv]]
    rw [hv] at hV
    rw [show errV 101 = .er 1 from rfl] at hV ⊢
    simp (disch := first | assumption | omega | (simp only [List.length_cons, List.length_nil, List.length_set, List.length_append, List.length_replicate, List.length_map, List.length_range, List.length_take, List.length_drop, nums_length, bools_length, vecs_length]; first | done | omega)) [A63, hV, errV]

def downN (q d a : Int) : Int := (a * P d + (q - 1) / 2) / q % P d
def upN (q d x : Int) : Int := (q * x + P (d - 1)) / P d
theorem downN_bound {q d a : Int} (h : Bits q d) : 0 ≤ downN q d a ∧ downN q d a < P d := by
  have := P_bound h.1 h.2.1
  exact ⟨Int.emod_nonneg _ (by omega), Int.emod_lt_of_pos _ (by omega)⟩
theorem aP_bound {q d a : Int} (hq : Right q) (h : Bits q d) (h0 : 0 ≤ a) (h1 : a < q) : 0 ≤ a * P d ∧ a * P d ≤ 70231389093889 := by
  have hp := P_bound h.1 h.2.1
  have hi := hq.hi
  have h3 := h.2.2
  have h1 : a * P d ≤ 8380417 * 8380417 := Int.mul_le_mul (by omega) (by omega) (by omega) (by omega)
  exact ⟨Int.mul_nonneg h0 (by omega), by omega⟩
theorem upN_bound {q d x : Int} (hq : Right q) (h : Bits q d) (h0 : 0 ≤ x) (h1 : x < P d) : 0 ≤ upN q d x ∧ upN q d x ≤ q := by
  have hp := P_bound h.1 h.2.1
  have hh := P_half h.1
  have lo := hq.lo
  unfold upN
  have a0 : 0 ≤ q * x := Int.mul_nonneg (by omega) h0
  have a1 : q * x ≤ q * (P d - 1) := Int.mul_le_mul_of_nonneg_left (by omega) (by omega)
  rw [Int.mul_sub] at a1
  refine ⟨Int.ediv_nonneg (by omega) (by omega), ?_⟩
  have : q * x + P (d - 1) < (q + 1) * P d := by
    have e : (q + 1) * P d = q * P d + P d := by rw [Int.add_mul]; omega
    omega
  have := Int.ediv_lt_of_lt_mul (by omega) this
  omega

theorem Down1 {q d a : Int} (hq : Right q) (h : Bits q d) (h0 : 0 ≤ a) (h1 : a < q) : FF tab 64 [.i .i64 q, .i .i64 d, .i .i64 a] = some ⟨.i .i64 (downN q d a), []⟩ := by
  refine call_by (A := A64) rfl rfl ?_
  have hp := P_bound h.1 h.2.1
  have hb := aP_bound hq h h0 h1
  have hb2 := downN_bound (a := a) h
  have lo := hq.lo
  have hi := hq.hi
  have h2 := h.1
  have h3 := h.2.1
  have s1 := shl_P (a := 1) (d := d) (b := P d) (by omega) (by omega) (by omega) (by omega)
  have s2 := shl_P (a := a) (d := d) (b := a * P d) (by omega) (by omega) rfl (by omega)
  have w1 : IntKind.i64.wrap (q - 1) = q - 1 := i64_in _ (by omega)
  have e1 : (q - 1).tdiv 2 = (q - 1) / 2 := Int.tdiv_eq_ediv_of_nonneg (by omega)
  have w2 : IntKind.i64.wrap ((q - 1) / 2) = (q - 1) / 2 := i64_in _ (by omega)
  have w3 : IntKind.i64.wrap (a * P d + (q - 1) / 2) = a * P d + (q - 1) / 2 := i64_in _ (by omega)
  have e2 : (a * P d + (q - 1) / 2).tdiv q = (a * P d + (q - 1) / 2) / q := Int.tdiv_eq_ediv_of_nonneg (by omega)
  have n0 : 0 ≤ (a * P d + (q - 1) / 2) / q := Int.ediv_nonneg (by omega) (by omega)
  have n1 : (a * P d + (q - 1) / 2) / q ≤ a * P d + (q - 1) / 2 := Int.ediv_le_self _ (by omega)
  have w4 : IntKind.i64.wrap ((a * P d + (q - 1) / 2) / q) = (a * P d + (q - 1) / 2) / q := i64_in _ (by omega)
  have e3 : ((a * P d + (q - 1) / 2) / q).tmod (P d) = downN q d a := Int.tmod_eq_emod_of_nonneg n0
  have q0 : q ≠ 0 := by omega
  have p0 : P d ≠ 0 := by omega
  generalize a * P d = M at *
  simp (disch := first | assumption | omega | (simp only [List.length_cons, List.length_nil, List.length_set, List.length_append, List.length_replicate, List.length_map, List.length_range, List.length_take, List.length_drop, nums_length, bools_length, vecs_length]; first | done | omega)) [A64, s1, s2, w1, e1, w2, w3, e2, w4, e3, q0, p0, -shiftV_shl]
theorem Up1 {q d x : Int} (hq : Right q) (h : Bits q d) (h0 : 0 ≤ x) (h1 : x < P d) : FF tab 67 [.i .i64 q, .i .i64 d, .i .i64 x] = some ⟨.i .i64 (upN q d x), []⟩ := by
  refine call_by (A := A67) rfl rfl ?_
  have hp := P_bound h.1 h.2.1
  have h2 := h.1
  have h3 := h.2.1
  have lo := hq.lo
  have hi := hq.hi
  have hh := P_half h.1
  have hb := aP_bound (a := q - 1) hq h (by omega) (by omega)
  have a0 : 0 ≤ q * x := Int.mul_nonneg (by omega) h0
  have a1 : q * x ≤ 8380417 * 8380417 := Int.mul_le_mul (by omega) (by have := h.2.2; omega) h0 (by omega)
  have w0 : IntKind.i64.wrap (d - 1) = d - 1 := i64_in _ (by omega)
  have s1 := shl_P (a := 1) (d := d - 1) (b := P (d - 1)) (by omega) (by omega) (by omega) (by omega)
  have w1 : IntKind.i64.wrap (q * x) = q * x := i64_in _ (by omega)
  have w2 : IntKind.i64.wrap (q * x + P (d - 1)) = q * x + P (d - 1) := i64_in _ (by omega)
  have s2 := shr_P (a := q * x + P (d - 1)) (d := d) (by omega) (by omega)
  have e : upN q d x = (q * x + P (d - 1)) / P d := rfl
  rw [← e] at s2
  simp (disch := first | assumption | omega | (simp only [List.length_cons, List.length_nil, List.length_set, List.length_append, List.length_replicate, List.length_map, List.length_range, List.length_take, List.length_drop, nums_length, bools_length, vecs_length]; first | done | omega)) [A67, s1, s2, w0, w1, w2, -shiftV_shl, -shiftV_shr]

def downL (q d : Int) (L : List Int) : List Int := L.map (downN q d)
theorem downL_len (q d : Int) (L : List Int) : (downL q d L).length = L.length := by simp [downL]
theorem downL_mods {q d : Int} (h : Bits q d) (L : List Int) : Mods (P d) (downL q d L) := by
  intro x hx
  obtain ⟨a, _, rfl⟩ := List.mem_map.1 hx
  exact downN_bound h

theorem rDown (q n : Int) {d : Int} {x : AV} {L : List Int} (hx : IsL .i64 x L) (hb : Bits q d) (hL : vecBad q n L = 0) : FF tab 20 [(.ag [.i .i64 (q), .i .i64 (n)]), .i .i64 d, x] = some ⟨.tp [.os (nums .i64 (downL q d L)) L.length 1, .nl], []⟩ := by
  have hV := rVector q n hx (Nat.lt_of_le_of_lt (vecBad_len hL) (by omega))
  rw [hL, show errV 0 = .nl from rfl] at hV
  obtain ⟨hq, hd, hn, hm⟩ := vecBad_zero.1 hL
  have hF := rFair q n d
  rw [show fairBad q n d = 0 by simp [fairBad, valid, hq, hd, hb], show errV 0 = .nl from rfl] at hF
  refine call_by (A := A20) rfl rfl ?_
  have fx := hx.flat
  have lo := hd.lo
  have hi := hd.hi
  have hN : n.toNat = L.length := by omega
  simp (disch := first | assumption | omega | (simp only [List.length_cons, List.length_nil, List.length_set, List.length_append, List.length_replicate, List.length_map, List.length_range, List.length_take, List.length_drop, nums_length, bools_length, vecs_length]; first | done | omega)) [A20, hF, hV, hN]
  have hz := fillTo_zero (fun j => downN q d (ni L j)) L.length
  refine w_heads L.length (fun k => ⟨[(29, .i .i64 k), (28, .i .i64 n), (10, .rs 26 0 L.length 1), (3, .rf 3 0), (2, x), (1, .i .i64 d)], [(26, nums .i64 (fillTo (fun j => downN q d (ni L j)) L.length k)), (3, [.i .i64 q, .i .i64 n])]⟩) (by rw [hz]; simp (disch := first | assumption | omega | (simp only [List.length_cons, List.length_nil, List.length_set, List.length_append, List.length_replicate, List.length_map, List.length_range, List.length_take, List.length_drop, nums_length, bools_length, vecs_length]; first | done | omega)) [← hn]) ?_ ?_
  · intro k hk
    have w1 : IntKind.i64.wrap ((k : Int) + 1) = (k : Int) + 1 := i64_in _ (by omega)
    have hkn : (k : Int).toNat = k := Int.toNat_natCast _
    have hix := ixSV_isL hx (k' := .i64) (j := (k : Int)) (by omega) (by omega)
    rw [hkn] at hix
    have hgx := nums_get (k := .i64) hk
    have hr := mods_at hm hk
    have hM' := Down1 hq hb hr.1 hr.2
    have hl := fillTo_len (fun j => downN q d (ni L j)) L.length k
    have hset := fillTo_set (fun j => downN q d (ni L j)) hk
    have hlt : (k : Int) < (L.length : Int) := by omega
    generalize hT : (k : Int) = T at *
    generalize fillTo (fun j => downN q d (ni L j)) L.length k = F at *
    generalize downN q d (ni L k) = V at *
    simp (disch := first | assumption | omega | (simp only [List.length_cons, List.length_nil, List.length_set, List.length_append, List.length_replicate, List.length_map, List.length_range, List.length_take, List.length_drop, nums_length, bools_length, vecs_length]; first | done | omega)) [hix, hgx, hkn, hM', w1, hT, nums_set, hset]
  · rw [fillTo_all, mapTo_of (downN q d), ← downL]
    have hdl := downL_len q d L
    generalize downL q d L = D at *
    simp (disch := first | assumption | omega | (simp only [List.length_cons, List.length_nil, List.length_set, List.length_append, List.length_replicate, List.length_map, List.length_range, List.length_take, List.length_drop, nums_length, bools_length, vecs_length]; first | done | omega)) [← hn]
theorem rDown_bad (q n d : Int) {x : AV} {L : List Int} (hx : IsL .i64 x L) (hs : L.length < 9223372036854775807) (hb : fairBad q n d ≠ 0 ∨ vecBad q n L ≠ 0) : FF tab 20 [(.ag [.i .i64 (q), .i .i64 (n)]), .i .i64 d, x] = some ⟨.tp [.z, errV (if fairBad q n d ≠ 0 then fairBad q n d else vecBad q n L)], []⟩ := by
  have hV := rVector q n hx hs
  have hF := rFair q n d
  have c1 := fairBad_code q n d
  have c2 := vecBad_code q n L
  have f1 := errV_flat (fairBad q n d)
  have f2 := errV_flat (vecBad q n L)
  have n1 := errV_ne c1
  have n2 := errV_ne c2
  have fx := hx.flat
  generalize vecBad q n L = v at *
  generalize fairBad q n d = f at *
  refine call_by (A := A20) rfl rfl ?_
  by_cases h : f = 0
  · have h2 : v ≠ 0 := by rcases hb with h1 | h1; exact absurd h h1; exact h1
    subst h
    rw [show errV 0 = .nl from rfl] at hF
    simp (disch := first | assumption | omega | (simp only [List.length_cons, List.length_nil, List.length_set, List.length_append, List.length_replicate, List.length_map, List.length_range, List.length_take, List.length_drop, nums_length, bools_length, vecs_length]; first | done | omega)) [A20, hF, hV, n2, h2]
  · simp (disch := first | assumption | omega | (simp only [List.length_cons, List.length_nil, List.length_set, List.length_append, List.length_replicate, List.length_map, List.length_range, List.length_take, List.length_drop, nums_length, bools_length, vecs_length]; first | done | omega)) [A20, hF, n1, h]

def upL (q d : Int) (L : List Int) : List Int := L.map (upN q d)
theorem upL_len (q d : Int) (L : List Int) : (upL q d L).length = L.length := by simp [upL]
def upBad (q n d : Int) (L : List Int) : Nat := if fairBad q n d ≠ 0 then 101 else if (L.length : Int) ≠ n then 102 else if Mods (P d) L then 0 else 101
theorem upBad_code (q n d : Int) (L : List Int) : Code (upBad q n d L) := by unfold upBad Code; split <;> (try split) <;> (try split) <;> simp
theorem fair_zero {q n d : Int} : fairBad q n d = 0 ↔ Right q ∧ Deg n ∧ Bits q d := by
  unfold fairBad valid
  by_cases h1 : Right q ∧ Deg n
  · by_cases h2 : Bits q d
    · simp [h1, h2]
    · simp [h1, h2]
  · simp [h1]
    intro a b
    exact absurd ⟨a, b⟩ h1
theorem fair_two (q n d : Int) : fairBad q n d = 0 ∨ fairBad q n d = 101 := by unfold fairBad; split <;> (try split) <;> simp
theorem upBad_zero {q n d : Int} {L : List Int} : upBad q n d L = 0 ↔ Right q ∧ Deg n ∧ Bits q d ∧ (L.length : Int) = n ∧ Mods (P d) L := by
  unfold upBad
  rcases fair_two q n d with h | h
  · have := fair_zero.1 h
    by_cases h2 : (L.length : Int) = n
    · by_cases h3 : Mods (P d) L <;> simp [h, h2, h3, this]
    · simp [h, h2]
  · have : ¬ (Right q ∧ Deg n ∧ Bits q d) := fun hh => by rw [fair_zero.2 hh] at h; omega
    simp [h]
    intro a b c
    exact absurd ⟨a, b, c⟩ this

set_option maxHeartbeats 1000000 in
theorem rUp (q n d : Int) {x : AV} {L : List Int} (hx : IsL .i64 x L) (hs : L.length < 9223372036854775807) : FF tab 24 [(.ag [.i .i64 (q), .i .i64 (n)]), .i .i64 d, x] = some ⟨.tp [if upBad q n d L = 0 then .os (nums .i64 (upL q d L)) L.length 1 else .z, errV (upBad q n d L)], []⟩ := by
  have hF := rFair q n d
  refine call_by (A := A24) rfl rfl ?_
  have fx := hx.flat
  have hlen := lenV_isL hx
  rcases fair_two q n d with hf | hf
  · rw [hf, show errV 0 = .nl from rfl] at hF
    obtain ⟨hq, hd, hb⟩ := fair_zero.1 hf
    have lo := hd.lo
    have hi := hd.hi
    have hp := P_bound hb.1 hb.2.1
    have d1 := hb.1
    have d2 := hb.2.1
    by_cases hn : (L.length : Int) = n
    · have hbad : upBad q n d L = if Mods (P d) L then 0 else 101 := by simp [upBad, hf, hn]
      have hN : n.toNat = L.length := by omega
      have s1 := shl_P (a := 1) (d := d) (b := P d) (by omega) (by omega) (by omega) (by omega)
      simp (disch := first | assumption | omega | (simp only [List.length_cons, List.length_nil, List.length_set, List.length_append, List.length_replicate, List.length_map, List.length_range, List.length_take, List.length_drop, nums_length, bools_length, vecs_length]; first | done | omega)) [A24, hF, hlen, hn, hN]
      have hz := fillTo_zero (fun j => upN q d (ni L j)) L.length
      refine w_headsP L.length (fun k => ⟨[(29, .i .i64 k), (28, .i .i64 n), (27, x), (9, .rs 26 0 L.length 1), (3, .rf 3 0), (1, .i .i64 d)], [(26, nums .i64 (fillTo (fun j => upN q d (ni L j)) L.length k)), (3, [.i .i64 q, .i .i64 n])]⟩) (fun k => ∀ j, j < k → 0 ≤ ni L j ∧ ni L j < P d) (by rw [hz]; simp (disch := first | assumption | omega | (simp only [List.length_cons, List.length_nil, List.length_set, List.length_append, List.length_replicate, List.length_map, List.length_range, List.length_take, List.length_drop, nums_length, bools_length, vecs_length]; first | done | omega)) [← hn]) (fun j h => by omega) ?_ ?_
      · intro k hk hpre
        have w1 : IntKind.i64.wrap ((k : Int) + 1) = (k : Int) + 1 := i64_in _ (by omega)
        have hkn : (k : Int).toNat = k := Int.toNat_natCast _
        have hix := ixSV_isL hx (k' := .i64) (j := (k : Int)) (by omega) (by omega)
        rw [hkn] at hix
        have hgx := nums_get (k := .i64) hk
        have hl := fillTo_len (fun j => upN q d (ni L j)) L.length k
        have hset := fillTo_set (fun j => upN q d (ni L j)) hk
        have hlt : (k : Int) < (L.length : Int) ∧ (k : Int) < n := by omega
        have hM' := fun h0 h1 => Up1 (x := ni L k) hq hb h0 h1
        have hno : (ni L k < 0 ∨ P d ≤ ni L k) → ¬ Mods (P d) L := fun h hm => by have := mods_at hm hk; omega
        have hnext : 0 ≤ ni L k → ni L k < P d → ∀ j, j < k + 1 → 0 ≤ ni L j ∧ ni L j < P d := fun h0 h1 j hj => by
          by_cases e : j = k
          · subst e; exact ⟨h0, h1⟩
          · exact hpre j (by omega)
        generalize hT : (k : Int) = T at *
        generalize fillTo (fun j => upN q d (ni L j)) L.length k = F at *
        generalize upN q d (ni L k) = V at *
        by_cases h1 : ni L k < 0
        · rw [hbad, if_neg (hno (.inl h1))]
          simp (disch := first | assumption | omega | (simp only [List.length_cons, List.length_nil, List.length_set, List.length_append, List.length_replicate, List.length_map, List.length_range, List.length_take, List.length_drop, nums_length, bools_length, vecs_length]; first | done | omega)) [hix, hgx, h1, errV]
        · by_cases h2 : P d ≤ ni L k
          · rw [hbad, if_neg (hno (.inr h2))]
            simp (disch := first | assumption | omega | (simp only [List.length_cons, List.length_nil, List.length_set, List.length_append, List.length_replicate, List.length_map, List.length_range, List.length_take, List.length_drop, nums_length, bools_length, vecs_length]; first | done | omega)) [hix, hgx, h1, h2, s1, errV, -shiftV_shl]
          · have hM'' := hM' (by omega) (by omega)
            have hnx := hnext (by omega) (by omega)
            simp (disch := first | assumption | omega | (simp only [List.length_cons, List.length_nil, List.length_set, List.length_append, List.length_replicate, List.length_map, List.length_range, List.length_take, List.length_drop, nums_length, bools_length, vecs_length]; first | done | omega)) [hix, hgx, hkn, hM'', h1, h2, s1, w1, hT, nums_set, hset, -shiftV_shl]
            exact hnx
      · intro hpre
        rw [hbad, if_pos (mods_step hpre), fillTo_all, mapTo_of (upN q d), ← upL]
        have hul := upL_len q d L
        generalize upL q d L = D at *
        simp (disch := first | assumption | omega | (simp only [List.length_cons, List.length_nil, List.length_set, List.length_append, List.length_replicate, List.length_map, List.length_range, List.length_take, List.length_drop, nums_length, bools_length, vecs_length]; first | done | omega)) [← hn, errV]
    · have hbad : upBad q n d L = 102 := by simp [upBad, hf, hn]
      rw [hbad]
      simp (disch := first | assumption | omega | (simp only [List.length_cons, List.length_nil, List.length_set, List.length_append, List.length_replicate, List.length_map, List.length_range, List.length_take, List.length_drop, nums_length, bools_length, vecs_length]; first | done | omega)) [A24, hF, hlen, hn, errV]
  · have hbad : upBad q n d L = 101 := by simp [upBad, hf]
    rw [hf] at hF
    rw [hbad]
    rw [show errV 101 = .er 1 from rfl] at hF ⊢
    simp (disch := first | assumption | omega | (simp only [List.length_cons, List.length_nil, List.length_set, List.length_append, List.length_replicate, List.length_map, List.length_range, List.length_take, List.length_drop, nums_length, bools_length, vecs_length]; first | done | omega)) [A24, hF, errV]

end Zab.YtcebddjidpbhgaaDoorB
