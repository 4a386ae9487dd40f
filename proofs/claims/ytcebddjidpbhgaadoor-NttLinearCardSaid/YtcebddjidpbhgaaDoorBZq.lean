/- What the functions of the first chapter give back. -/
import Derived.Test.YtcebddjidpbhgaaDoorZabFor
import Derived.Test.YtcebddjidpbhgaaDoorBAbs
namespace Zab.YtcebddjidpbhgaaDoorB
open Go
open Go.IntWalk (i64_in)
set_option maxRecDepth 100000
set_option linter.unusedSimpArgs false
set_option linter.unusedVariables false
attribute [-simp] getElem?_pos
attribute [local simp ↓] W_loop W_seq W_skip W_ret W_exit W_reg W_cond W_block W_pre cleanO_some freezes_nil freezes_cons frzO_some andThen_normal andThen_ret andThen_exit unblock_normal unblock_ret unblock_exit Ends_normal Ends_ret steps_nil steps_cons step_some st_move st_pick st_bin st_un st_conv st_addr sv_ixA sv_ixS sv_fld sv_ixV st_ixStr st_ext sv_build sv_bsl sv_mkS st_mkfn sv_lenS sv_len st_mn st_mx st_nilChk st_tas st_slc sv_loadg sv_load st_call sv_store sv_box sv_alloc sv_mkR sv_bslR sv_nilR sv_app sv_callK stepsAt_some onSome_some onB_true onB_false onG_tt onG_tf onG_ft onG_ff onG_un optPut_some optMem_some
attribute [local simp] evalO evalL constAV get_cons get_nil put_cons put_nil look_cons look_nil putD_some clean_mk freeze_mk mapS del_cons del_nil keepS_cons keepS_nil keepL_cons keepL_nil memb_cons memb_nil unV pureV convV_i addrV toArgs anyRs hasSl2L fromRetL finR resL resV toRets one Nat.beq Nat.ble shiftV_shr shiftV_shl IntKind.bits fillV List.getElem?_cons_zero List.getElem?_cons_succ List.length_cons List.length_nil List.set_cons_zero List.set_cons_succ setR2 setR3 zrep_eqs binV_i binI_shl binI_shr binI_eqs binV_eqs binV_slcE binV_slcN lendsC_some lends_nil lends_eqs fl_lends lends_rf lendsR_some lends_rs lendsS_some seesAny_no callK1_fn callK2_some callK3_some recvPut_some afterK_some afterK_none putAll_nil putAll_cons hasSlLL_nil hasSlLL_cons recv_os recv_op recv_no recvV_some recv_tp recvT_os recvT_op srcV_rs srcR_some List.append_nil intV_quo intV_rem hasSlL mapR_eqs kill1_eqs frz1_eqs enterS_eqs enterL_eqs isRs_eqs toArg_eqs from1_eqs from_eqs toRet_eqs lentOf_eqs countR_eqs hasSl1_eqs hasSl2_eqs hasSl_eqs cellsOf_ag1 cellsOf_ag2 cellsOf_ag3 cellsOf_ag4 cellsOf_ag5 partV_2 partV_3 partV_4 partV_5 toRet_own ownR_of toArg_rs seenR_all seenR_part appS_rs appR_of srcV_sl srcV_z nilS_z bslS_some dec_t dec_f buildV_some bslV_some boxS_some root_mk ixSV_sl ixSV_rs ixAV_rf ixAV_el ixVV_ag fldV_ag lenV_sl lenV_rs lenV_z lenSV_s loadV_rf loadV_el loadR_some partV_none partV_all partV_some storeV_rf setR_one setR_all cellsOf_ag cellsOf_i cellsOf_b cellsOf_sl cellsOf_z cellsOf_er cellsOf_nl cellsOf_np cellsOf_s mkSV_of mkRS_of fl_map fl_kill fl_frz fl_enterS fl_enterL fl_lentOf fl_toArg fl_isRs fl_toRet fl_from1 fl_from fl_cells fl_countR nums_length nums_get nums_set nums_append nums_snoc nums_drop nums_take nums_zrep nums_hasSl bools_length bools_get bools_set bools_snoc bools_zrep bools_hasSl vecs_length vecs_get vecs_snoc slcV_sl idxO idx Nat.zero_add Nat.mul_one Nat.add_zero stepsAt_some onSome_some onB_true onB_false onG_tt onG_tf onG_ft onG_ff onG_un optPut_some optMem_some

/-- One of the seven. -/
def Right (p : Int) : Prop := p = 17 ∨ p = 97 ∨ p = 257 ∨ p = 3329 ∨ p = 7681 ∨ p = 12289 ∨ p = 8380417
theorem Right.lo {p : Int} (h : Right p) : 17 ≤ p := by unfold Right at h; omega
theorem Right.hi {p : Int} (h : Right p) : p ≤ 8380417 := by unfold Right at h; omega

theorem Is {p : Int} (h : Right p) : FF tab 83 [.i .i64 p] = some ⟨.b true, []⟩ := by
  refine call_by (A := A83) rfl rfl ?_
  rcases h with rfl | rfl | rfl | rfl | rfl | rfl | rfl <;> simp (disch := first | assumption | omega | (simp only [List.length_cons, List.length_nil, List.length_set, List.length_append, List.length_replicate, List.length_map, List.length_range, List.length_take, List.length_drop, nums_length, bools_length, vecs_length]; first | done | omega)) [A83]

theorem tmod_two (a : Int) {p : Int} (h : 0 < p) : (0 ≤ a.tmod p ∧ a.tmod p = a % p) ∨ (a.tmod p < 0 ∧ a.tmod p + p = a % p) := by
  have h1 := Int.emod_nonneg a (show p ≠ 0 by omega)
  have h2 := Int.emod_lt_of_pos a h
  have h3 := Int.emod_nonneg (-a) (show p ≠ 0 by omega)
  have h4 := Int.emod_lt_of_pos (-a) h
  have e : (-a) % p = if a % p = 0 then 0 else p - a % p := by
    split
    · rename_i h
      exact Int.emod_eq_zero_of_dvd (Int.dvd_neg.2 (Int.dvd_of_emod_eq_zero h))
    · rename_i hne
      have h5 : (-a) = (p - a % p) + p * (-(a / p) - 1) := by
        have := Int.mul_ediv_add_emod a p
        have e1 : p * (-(a / p) - 1) = -(p * (a / p)) - p := by rw [Int.mul_sub, Int.mul_neg]; omega
        omega
      rw [h5, Int.add_mul_emod_self_left]
      exact Int.emod_eq_of_lt (by omega) (by omega)
  rw [tmod_eq]
  by_cases ha : 0 ≤ a
  · rw [if_pos ha]; left; exact ⟨h1, rfl⟩
  · rw [if_neg ha, e]
    by_cases h0 : a % p = 0
    · rw [if_pos h0]; left; omega
    · rw [if_neg h0]; right; omega

theorem Mod (a : Int) {p : Int} (h : Right p) : FF tab 80 [.i .i64 a, .i .i64 p] = some ⟨.i .i64 (a % p), []⟩ := by
  refine call_by (A := A80) rfl rfl ?_
  have lo := h.lo
  have hi := h.hi
  have h0 : p ≠ 0 := by omega
  have h1 := Int.emod_nonneg a h0
  have h2 := Int.emod_lt_of_pos a (show 0 < p by omega)
  rcases tmod_two a (show 0 < p by omega) with ⟨g1, g2⟩ | ⟨g1, g2⟩
  · simp (disch := first | assumption | omega | (simp only [List.length_cons, List.length_nil, List.length_set, List.length_append, List.length_replicate, List.length_map, List.length_range, List.length_take, List.length_drop, nums_length, bools_length, vecs_length]; first | done | omega)) [A80, Is h, h0, g2, i64_in]
  · have w : IntKind.i64.wrap (a.tmod p) = a.tmod p := i64_in _ (by omega)
    have w2 : IntKind.i64.wrap (a % p) = a % p := i64_in _ (by omega)
    simp (disch := first | assumption | omega | (simp only [List.length_cons, List.length_nil, List.length_set, List.length_append, List.length_replicate, List.length_map, List.length_range, List.length_take, List.length_drop, nums_length, bools_length, vecs_length]; first | done | omega)) [A80, Is h, h0, w, g2, w2]

theorem prod_bound {x y p : Int} (h : Right p) (x0 : 0 ≤ x) (x1 : x < p) (y0 : 0 ≤ y) (y1 : y < p) : 0 ≤ x * y ∧ x * y ≤ 70231389093889 := by
  have hi := h.hi
  have h1 : x * y ≤ 8380417 * 8380417 := Int.mul_le_mul (by omega) (by omega) y0 (by omega)
  exact ⟨Int.mul_nonneg x0 y0, by omega⟩

theorem Mul (a b : Int) {p : Int} (h : Right p) : FF tab 81 [.i .i64 a, .i .i64 b, .i .i64 p] = some ⟨.i .i64 (a * b % p), []⟩ := by
  refine call_by (A := A81) rfl rfl ?_
  have lo := h.lo
  have hb := prod_bound h (Int.emod_nonneg a (by omega)) (Int.emod_lt_of_pos a (by omega)) (Int.emod_nonneg b (by omega)) (Int.emod_lt_of_pos b (by omega))
  have e1 : IntKind.i64.wrap (a % p * (b % p)) = a % p * (b % p) := i64_in _ (by omega)
  have e2 : a % p * (b % p) % p = a * b % p := (Int.mul_emod a b p).symm
  have hM := Mod (a % p * (b % p)) h
  rw [e2] at hM
  simp (disch := first | assumption | omega | (simp only [List.length_cons, List.length_nil, List.length_set, List.length_append, List.length_replicate, List.length_map, List.length_range, List.length_take, List.length_drop, nums_length, bools_length, vecs_length]; first | done | omega)) [A81, Mod _ h, e1]
  exact e2

theorem Add (a b : Int) {p : Int} (h : Right p) : FF tab 79 [.i .i64 a, .i .i64 b, .i .i64 p] = some ⟨.i .i64 ((a + b) % p), []⟩ := by
  refine call_by (A := A79) rfl rfl ?_
  have lo := h.lo
  have hi := h.hi
  have a0 := Int.emod_nonneg a (show p ≠ 0 by omega)
  have a1 := Int.emod_lt_of_pos a (show 0 < p by omega)
  have b0 := Int.emod_nonneg b (show p ≠ 0 by omega)
  have b1 := Int.emod_lt_of_pos b (show 0 < p by omega)
  have e1 : IntKind.i64.wrap (a % p + b % p) = a % p + b % p := i64_in _ (by omega)
  have hM := Mod (a % p + b % p) h
  rw [← Int.add_emod] at hM
  simp (disch := first | assumption | omega | (simp only [List.length_cons, List.length_nil, List.length_set, List.length_append, List.length_replicate, List.length_map, List.length_range, List.length_take, List.length_drop, nums_length, bools_length, vecs_length]; first | done | omega)) [A79, Mod _ h, e1, hM]

theorem Sub (a b : Int) {p : Int} (h : Right p) : FF tab 82 [.i .i64 a, .i .i64 b, .i .i64 p] = some ⟨.i .i64 ((a - b) % p), []⟩ := by
  refine call_by (A := A82) rfl rfl ?_
  have lo := h.lo
  have hi := h.hi
  have a0 := Int.emod_nonneg a (show p ≠ 0 by omega)
  have a1 := Int.emod_lt_of_pos a (show 0 < p by omega)
  have b0 := Int.emod_nonneg b (show p ≠ 0 by omega)
  have b1 := Int.emod_lt_of_pos b (show 0 < p by omega)
  have e1 : IntKind.i64.wrap (a % p - b % p) = a % p - b % p := i64_in _ (by omega)
  have hM := Mod (a % p - b % p) h
  rw [← Int.sub_emod] at hM
  simp (disch := first | assumption | omega | (simp only [List.length_cons, List.length_nil, List.length_set, List.length_append, List.length_replicate, List.length_map, List.length_range, List.length_take, List.length_drop, nums_length, bools_length, vecs_length]; first | done | omega)) [A82, Mod _ h, e1, hM]

theorem pow_mod (a p : Int) : ∀ n : Nat, (a % p) ^ n % p = a ^ n % p
  | 0 => by simp
  | n + 1 => by
    rw [Int.pow_succ, Int.pow_succ, Int.mul_emod, pow_mod a p n, Int.emod_emod, ← Int.mul_emod]

theorem sq_pow (x : Int) : ∀ n : Nat, (x * x) ^ n = x ^ (2 * n)
  | 0 => by simp
  | n + 1 => by
    rw [Int.pow_succ, sq_pow x n, show 2 * (n + 1) = 2 * n + 1 + 1 by omega, Int.pow_succ, Int.pow_succ, Int.mul_assoc]

theorem odd_round (x out p : Int) (n : Nat) (h : n % 2 = 1) : (out * x % p) * (x * x % p) ^ (n / 2) % p = out * x ^ n % p := by
  rw [Int.mul_emod, pow_mod, Int.emod_emod, ← Int.mul_emod, sq_pow]
  have e : n = 2 * (n / 2) + 1 := by omega
  conv => rhs; rw [e, Int.pow_succ]
  congr 1
  rw [Int.mul_assoc, Int.mul_comm x]

theorem even_round (x out p : Int) (n : Nat) (h : n % 2 = 0) : out * (x * x % p) ^ (n / 2) % p = out * x ^ n % p := by
  rw [Int.mul_emod, pow_mod, ← Int.mul_emod, sq_pow]
  have e : n = 2 * (n / 2) := by omega
  conv => rhs; rw [e]

theorem Pow_neg (a : Int) {e p : Int} (h : Right p) (he : e < 0) : FF tab 75 [.i .i64 a, .i .i64 e, .i .i64 p] = some ⟨.i .i64 0, []⟩ := by
  refine call_by (A := A75) rfl rfl ?_
  simp (disch := first | assumption | omega | (simp only [List.length_cons, List.length_nil, List.length_set, List.length_append, List.length_replicate, List.length_map, List.length_range, List.length_take, List.length_drop, nums_length, bools_length, vecs_length]; first | done | omega)) [A75, Is h, he]

theorem Pow (a : Int) {e p : Int} (h : Right p) (he : 0 ≤ e) (he2 : e ≤ 9223372036854775807) : FF tab 75 [.i .i64 a, .i .i64 e, .i .i64 p] = some ⟨.i .i64 (a ^ e.toNat % p), []⟩ := by
  refine call_by (A := A75) rfl rfl ?_
  have lo := h.lo
  have hn : ¬ e < 0 := by omega
  simp (disch := first | assumption | omega | (simp only [List.length_cons, List.length_nil, List.length_set, List.length_append, List.length_replicate, List.length_map, List.length_range, List.length_take, List.length_drop, nums_length, bools_length, vecs_length]; first | done | omega)) [A75, Is h, hn, Mod _ h]
  refine w_rounds (I := fun m S => ∃ x out f : Int, S.clean [8, 7, 2, 1] [] = ⟨[(8, .i .i64 x), (7, .i .i64 out), (2, .i .i64 p), (1, .i .i64 f)], []⟩ ∧ 0 ≤ f ∧ f ≤ 9223372036854775807 ∧ m = f.toNat ∧
    0 ≤ out ∧ out < p ∧ (out * x ^ f.toNat) % p = a ^ e.toNat % p) (m := e.toNat) ?_ ?_
  · rintro m S ⟨x, out, f, hS, f0, f1, rfl, o0, o1, hx⟩
    rw [hS]
    have q1 : f.tmod 2 = f % 2 := Int.tmod_eq_emod_of_nonneg f0
    have q2 : f.tdiv 2 = f / 2 := Int.tdiv_eq_ediv_of_nonneg f0
    have q3 : IntKind.i64.wrap (f / 2) = f / 2 := i64_in _ (by omega)
    have q4 : (f / 2).toNat = f.toNat / 2 := by omega
    have m1 := Mul out x h
    have m2 := Mul x x h
    by_cases hf : 0 < f
    · by_cases hb : f % 2 = 1
      · simp (disch := first | assumption | omega | (simp only [List.length_cons, List.length_nil, List.length_set, List.length_append, List.length_replicate, List.length_map, List.length_range, List.length_take, List.length_drop, nums_length, bools_length, vecs_length]; first | done | omega)) [hf, hb, q1, q2, q3, m1, m2]
        refine ⟨(f / 2).toNat, by omega, _, _, _, ⟨rfl, rfl, rfl⟩, by omega, by omega, rfl, Int.emod_nonneg _ (by omega), Int.emod_lt_of_pos _ (by omega), ?_⟩
        rw [q4, odd_round _ _ _ _ (by omega), hx]
      · simp (disch := first | assumption | omega | (simp only [List.length_cons, List.length_nil, List.length_set, List.length_append, List.length_replicate, List.length_map, List.length_range, List.length_take, List.length_drop, nums_length, bools_length, vecs_length]; first | done | omega)) [hf, hb, q1, q2, q3, m1, m2]
        refine ⟨(f / 2).toNat, by omega, _, _, _, ⟨rfl, rfl, rfl⟩, by omega, by omega, rfl, o0, o1, ?_⟩
        rw [q4, even_round _ _ _ _ (by omega), hx]
    · simp (disch := first | assumption | omega | (simp only [List.length_cons, List.length_nil, List.length_set, List.length_append, List.length_replicate, List.length_map, List.length_range, List.length_take, List.length_drop, nums_length, bools_length, vecs_length]; first | done | omega)) [hf]
      have : f = 0 := by omega
      subst this
      rw [← hx]
      simp only [Int.toNat_zero, Int.pow_zero, Int.mul_one]
      exact (Int.emod_eq_of_lt o0 o1).symm
  · refine ⟨a % p, 1, e, ?_, he, he2, rfl, by omega, by omega, ?_⟩
    · simp []
    · rw [Int.one_mul, pow_mod]

theorem Inv (a : Int) {p : Int} (h : Right p) : FF tab 86 [.i .i64 a, .i .i64 p] = some ⟨if a % p = 0 then .tp [.i .i64 0, .er 1] else .tp [.i .i64 (a ^ (p - 2).toNat % p), .nl], []⟩ := by
  refine call_by (A := A86) rfl rfl ?_
  have lo := h.lo
  have hi := h.hi
  have e1 : IntKind.i64.wrap (p - 2) = p - 2 := i64_in _ (by omega)
  have hP := Pow a h (e := p - 2) (by omega) (by omega)
  by_cases h0 : a % p = 0
  · rw [if_pos h0]
    simp (disch := first | assumption | omega | (simp only [List.length_cons, List.length_nil, List.length_set, List.length_append, List.length_replicate, List.length_map, List.length_range, List.length_take, List.length_drop, nums_length, bools_length, vecs_length]; first | done | omega)) [A86, Is h, Mod _ h, h0]
  · rw [if_neg h0]
    simp (disch := first | assumption | omega | (simp only [List.length_cons, List.length_nil, List.length_set, List.length_append, List.length_replicate, List.length_map, List.length_range, List.length_take, List.length_drop, nums_length, bools_length, vecs_length]; first | done | omega)) [A86, Is h, Mod _ h, h0, e1, hP]

theorem Center (a : Int) {p : Int} (h : Right p) : FF tab 77 [.i .i64 a, .i .i64 p] = some ⟨.i .i64 (if (p - 1) / 2 < a % p then a % p - p else a % p), []⟩ := by
  refine call_by (A := A77) rfl rfl ?_
  have lo := h.lo
  have hi := h.hi
  have a0 := Int.emod_nonneg a (show p ≠ 0 by omega)
  have a1 := Int.emod_lt_of_pos a (show 0 < p by omega)
  have e1 : (p - 1).tdiv 2 = (p - 1) / 2 := Int.tdiv_eq_ediv_of_nonneg (by omega)
  have w1 : IntKind.i64.wrap (p - 1) = p - 1 := i64_in _ (by omega)
  have w2 : IntKind.i64.wrap ((p - 1) / 2) = (p - 1) / 2 := i64_in _ (by omega)
  have w3 : IntKind.i64.wrap (a % p - p) = a % p - p := i64_in _ (by omega)
  by_cases hc : (p - 1) / 2 < a % p
  · rw [if_pos hc]
    simp (disch := first | assumption | omega | (simp only [List.length_cons, List.length_nil, List.length_set, List.length_append, List.length_replicate, List.length_map, List.length_range, List.length_take, List.length_drop, nums_length, bools_length, vecs_length]; first | done | omega)) [A77, Is h, Mod _ h, e1, w1, w2, w3, hc]
  · rw [if_neg hc]
    simp (disch := first | assumption | omega | (simp only [List.length_cons, List.length_nil, List.length_set, List.length_append, List.length_replicate, List.length_map, List.length_range, List.length_take, List.length_drop, nums_length, bools_length, vecs_length]; first | done | omega)) [A77, Is h, Mod _ h, e1, w1, w2, w3, hc]

end Zab.YtcebddjidpbhgaaDoorB
