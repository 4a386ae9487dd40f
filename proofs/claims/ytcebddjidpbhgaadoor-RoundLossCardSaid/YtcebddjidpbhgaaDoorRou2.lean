/- Rounding: the loss, and the document's own. -/
import Derived.Test.YtcebddjidpbhgaaDoorRound
namespace Zab.YtcebddjidpbhgaaDoor
open Go
open Go.IntWalk (i64_in)
set_option maxRecDepth 100000
set_option linter.unusedSimpArgs false
set_option linter.unusedVariables false
attribute [-simp] getElem?_pos
attribute [local simp ↓] W_loop W_seq W_skip W_ret W_exit W_reg W_cond W_block W_pre cleanO_some freezes_nil freezes_cons frzO_some andThen_normal andThen_ret andThen_exit unblock_normal unblock_ret unblock_exit Ends_normal Ends_ret steps_nil steps_cons step_some st_move st_pick st_bin st_un st_conv st_addr sv_ixA sv_ixS sv_fld sv_ixV st_ixStr st_ext sv_build sv_bsl sv_mkS st_mkfn sv_lenS sv_len st_mn st_mx st_nilChk st_tas st_slc sv_loadg sv_load st_call sv_store sv_box sv_alloc sv_mkR sv_bslR sv_nilR sv_app st_callK stepsAt_some onSome_some onB_true onB_false onG_tt onG_tf onG_ft onG_ff onG_un optPut_some optMem_some
attribute [local simp] evalO evalL constAV get_cons get_nil put_cons put_nil look_cons look_nil putD_some clean_mk freeze_mk mapS del_cons del_nil keepS_cons keepS_nil keepL_cons keepL_nil memb_cons memb_nil unV pureV convV_i addrV toArgs anyRs hasSl2L fromRetL finR resL resV toRets one Nat.beq Nat.ble shiftV_shr shiftV_shl IntKind.bits fillV List.getElem?_cons_zero List.getElem?_cons_succ List.length_cons List.length_nil List.set_cons_zero List.set_cons_succ setR2 setR3 zrep_eqs binV_i binI_shl binI_shr binI_eqs binV_eqs intV_quo intV_rem hasSlL mapR_eqs kill1_eqs frz1_eqs enterS_eqs enterL_eqs isRs_eqs toArg_eqs from1_eqs from_eqs toRet_eqs lentOf_eqs countR_eqs hasSl1_eqs hasSl2_eqs hasSl_eqs cellsOf_ag1 cellsOf_ag2 cellsOf_ag3 cellsOf_ag4 cellsOf_ag5 partV_2 partV_3 partV_4 partV_5 toRet_own ownR_of toArg_rs seenR_all seenR_part appS_rs appR_of srcV_sl srcV_z nilS_z bslS_some dec_t dec_f buildV_some bslV_some boxS_some root_mk ixSV_sl ixSV_rs ixAV_rf ixAV_el ixVV_ag fldV_ag lenV_sl lenV_rs lenV_z lenSV_s loadV_rf loadV_el loadR_some partV_none partV_all partV_some storeV_rf setR_one setR_all cellsOf_ag cellsOf_i cellsOf_b cellsOf_sl cellsOf_z cellsOf_er cellsOf_nl cellsOf_np cellsOf_s mkSV_of mkRS_of fl_map fl_kill fl_frz fl_enterS fl_enterL fl_lentOf fl_toArg fl_isRs fl_toRet fl_from1 fl_from fl_cells fl_countR nums_length nums_get nums_set nums_append nums_snoc nums_drop nums_take nums_zrep nums_hasSl bools_length bools_get bools_set bools_snoc bools_zrep bools_hasSl vecs_length vecs_get vecs_snoc slcV_sl idxO idx Nat.zero_add Nat.mul_one Nat.add_zero stepsAt_some onSome_some onB_true onB_false onG_tt onG_tf onG_ft onG_ff onG_un optPut_some optMem_some

/-- What a number loses. -/
def lossAt (q d : Int) (j : Nat) : Int := cen q (upN q d (downN q d j) - j)
theorem mostTo_at (g : Nat → Int) {j : Nat} : ∀ {n : Nat}, j < n → absI (g j) ≤ mostTo g n
  | k + 1, h => by
    simp only [mostTo]
    by_cases e : j = k
    · subst e; omega
    · have := mostTo_at g (n := k) (j := j) (by omega); omega
def lossN (q d : Int) : Int := mostTo (lossAt q d) q.toNat
theorem lossN_bound {q : Int} (hq : Right q) (d : Int) : 0 ≤ lossN q d ∧ lossN q d < 8380417 :=
  ⟨mostTo_nonneg _ _, mostTo_lt (by omega) (fun j => cen_abs _ hq) _⟩
theorem lossN_at {q : Int} (d : Int) {j : Nat} (h : j < q.toNat) : absI (lossAt q d j) ≤ lossN q d := by
  exact mostTo_at (lossAt q d) h

theorem rLoss (q n : Int) {d : Int} (hq : Right q) (hn : Deg n) (hb : Bits q d) : FF tab 38 [(.ag [.i .i64 (q), .i .i64 (n)]), .i .i64 d] = some ⟨.tp [.i .i64 (lossN q d), .nl], []⟩ := by
  have hF := rFair q n d
  rw [fair_zero.2 ⟨hq, hn, hb⟩, show errV 0 = .nl from rfl] at hF
  refine call_by (A := A38) rfl rfl ?_
  have lo := hq.lo
  have hi := hq.hi
  simp (disch := first | assumption | omega | (simp only [List.length_cons, List.length_nil, List.length_set, List.length_append, List.length_replicate, List.length_map, List.length_range, List.length_take, List.length_drop, nums_length, bools_length, vecs_length]; first | done | omega)) [A38, hF]
  refine w_heads q.toNat (fun k => ⟨[(18, .i .i64 k), (17, .i .i64 q), (7, .i .i64 (mostTo (lossAt q d) k)), (2, .rf 2 0), (1, .i .i64 d)], [(2, [.i .i64 q, .i .i64 n])]⟩) (by simp (disch := first | assumption | omega | (simp only [List.length_cons, List.length_nil, List.length_set, List.length_append, List.length_replicate, List.length_map, List.length_range, List.length_take, List.length_drop, nums_length, bools_length, vecs_length]; first | done | omega)) [mostTo]) ?_ ?_
  · intro k hk
    have w1 : IntKind.i64.wrap ((k : Int) + 1) = (k : Int) + 1 := i64_in _ (by omega)
    have hd1 := Down1 (a := k) hq hb (by omega) (by omega)
    have hdb := downN_bound (a := k) hb
    have hu1 := Up1 hq hb hdb.1 hdb.2
    have hub := upN_bound hq hb hdb.1 hdb.2
    have w2 : IntKind.i64.wrap (upN q d (downN q d k) - k) = upN q d (downN q d k) - k := i64_in _ (by omega)
    have hC := Cen (upN q d (downN q d k) - k) hq
    have hc := cen_abs (upN q d (downN q d k) - k) hq
    have w3 : IntKind.i64.wrap (- cen q (upN q d (downN q d k) - k)) = - cen q (upN q d (downN q d k) - k) := i64_in _ (by omega)
    have er : mostTo (lossAt q d) (k + 1) = max (mostTo (lossAt q d) k) (max (cen q (upN q d (downN q d k) - k)) (- cen q (upN q d (downN q d k) - k))) := rfl
    have hlt : (k : Int) < q := by omega
    generalize hT : (k : Int) = T at *
    generalize cen q (upN q d (downN q d T) - T) = c at *
    generalize upN q d (downN q d T) = U at *
    generalize downN q d T = D at *
    simp (disch := first | assumption | omega | (simp only [List.length_cons, List.length_nil, List.length_set, List.length_append, List.length_replicate, List.length_map, List.length_range, List.length_take, List.length_drop, nums_length, bools_length, vecs_length]; first | done | omega)) [hd1, hu1, hC, w1, w2, w3, hT, mx3, er]
  · have e : ((q.toNat : Nat) : Int) = q := Int.toNat_of_nonneg (by omega)
    simp (disch := first | assumption | omega | (simp only [List.length_cons, List.length_nil, List.length_set, List.length_append, List.length_replicate, List.length_map, List.length_range, List.length_take, List.length_drop, nums_length, bools_length, vecs_length]; first | done | omega)) [e, lossN]
theorem rLoss_bad {q n d : Int} (hb : fairBad q n d ≠ 0) : FF tab 38 [(.ag [.i .i64 (q), .i .i64 (n)]), .i .i64 d] = some ⟨.tp [.i .i64 0, errV 101], []⟩ := by
  have hF := rFair q n d
  have hf : fairBad q n d = 101 := by rcases fair_two q n d with h | h; exact absurd h hb; exact h
  rw [hf] at hF
  rw [show errV 101 = .er 1 from rfl] at hF ⊢
  refine call_by (A := A38) rfl rfl ?_
  simp (disch := first | assumption | omega | (simp only [List.length_cons, List.length_nil, List.length_set, List.length_append, List.length_replicate, List.length_map, List.length_range, List.length_take, List.length_drop, nums_length, bools_length, vecs_length]; first | done | omega)) [A38, hF]

theorem Bitted (q n d : Int) : FF tab 22 [(.ag [.i .i64 (q), .i .i64 (n)]), .i .i64 d] = some ⟨.b (decide (Bits q d)), []⟩ := by
  refine call_by (A := A22) rfl rfl ?_
  by_cases h1 : 1 ≤ d
  · by_cases h2 : d ≤ 30
    · have hp := P_bound h1 h2
      have w := u64_in (a := d) (by omega) (by omega)
      have s := shl_P (a := 1) (d := d) (b := P d) (by omega) (by omega) (by omega) (by omega)
      by_cases h3 : P d < q
      · have : Bits q d := ⟨h1, h2, h3⟩
        simp (disch := first | assumption | omega | (simp only [List.length_cons, List.length_nil, List.length_set, List.length_append, List.length_replicate, List.length_map, List.length_range, List.length_take, List.length_drop, nums_length, bools_length, vecs_length]; first | done | omega)) [A22, h1, h2, h3, this, w, s, -shiftV_shl]
      · have : ¬ Bits q d := fun h => h3 h.2.2
        simp (disch := first | assumption | omega | (simp only [List.length_cons, List.length_nil, List.length_set, List.length_append, List.length_replicate, List.length_map, List.length_range, List.length_take, List.length_drop, nums_length, bools_length, vecs_length]; first | done | omega)) [A22, h1, h2, h3, this, w, s, -shiftV_shl]
    · have : ¬ Bits q d := fun h => h2 h.2.1
      simp (disch := first | assumption | omega | (simp only [List.length_cons, List.length_nil, List.length_set, List.length_append, List.length_replicate, List.length_map, List.length_range, List.length_take, List.length_drop, nums_length, bools_length, vecs_length]; first | done | omega)) [A22, h1, h2, this, -shiftV_shl]
  · have : ¬ Bits q d := fun h => h1 h.1
    simp (disch := first | assumption | omega | (simp only [List.length_cons, List.length_nil, List.length_set, List.length_append, List.length_replicate, List.length_map, List.length_range, List.length_take, List.length_drop, nums_length, bools_length, vecs_length]; first | done | omega)) [A22, h1, this, -shiftV_shl]

theorem fDown1 {q d a : Int} (hq : Right q) (h : Bits q d) (h0 : 0 ≤ a) (h1 : a < q) : FF tab 70 [.i .i64 q, .i .i64 d, .i .i64 a] = some ⟨.i .i64 (downN q d a), []⟩ := by
  refine call_by (A := A70) rfl rfl ?_
  have hp := P_bound h.1 h.2.1
  have hb := aP_bound hq h h0 h1
  have hb2 := downN_bound (a := a) h
  have lo := hq.lo
  have hi := hq.hi
  have h2 := h.1
  have h3 := h.2.1
  have w := u64_in (a := d) (by omega) (by omega)
  have s1 := shl_P (a := 1) (d := d) (b := P d) (by omega) (by omega) (by omega) (by omega)
  have s2 := shl_P (a := a) (d := d) (b := a * P d) (by omega) (by omega) rfl (by omega)
  have w1 : IntKind.i64.wrap (q - 1) = q - 1 := i64_in _ (by omega)
  have e1 : (q - 1).tdiv 2 = (q - 1) / 2 := Int.tdiv_eq_ediv_of_nonneg (by omega)
  have w2 : IntKind.i64.wrap ((q - 1) / 2) = (q - 1) / 2 := i64_in _ (by omega)
  have w3 : IntKind.i64.wrap (a * P d + (q - 1) / 2) = a * P d + (q - 1) / 2 := i64_in _ (by omega)
  have e2 : (a * P d + (q - 1) / 2).tdiv q = (a * P d + (q - 1) / 2) / q := Int.tdiv_eq_ediv_of_nonneg (by omega)
  have n0 : 0 ≤ (a * P d + (q - 1) / 2) / q := Int.ediv_nonneg (by omega) (by omega)
  have n1 : (a * P d + (q - 1) / 2) / q ≤ a * P d + (q - 1) / 2 := Int.ediv_le_self _ (by omega)
  have w4 : IntKind.i64.wrap ((a * P d + (q - 1) / 2) / q) = (a * P d + (q - 1) / 2) / q := i64_in _ (by omega)
  have e3 : ((a * P d + (q - 1) / 2) / q).tmod (P d) = downN q d a := Int.tmod_eq_emod_of_nonneg n0
  have q0 : q ≠ 0 := by omega
  have p0 : P d ≠ 0 := by omega
  generalize a * P d = M at *
  simp (disch := first | assumption | omega | (simp only [List.length_cons, List.length_nil, List.length_set, List.length_append, List.length_replicate, List.length_map, List.length_range, List.length_take, List.length_drop, nums_length, bools_length, vecs_length]; first | done | omega)) [A70, w, s1, s2, w1, e1, w2, w3, e2, w4, e3, q0, p0, -shiftV_shl]
theorem fUp1 {q d x : Int} (hq : Right q) (h : Bits q d) (h0 : 0 ≤ x) (h1 : x < P d) : FF tab 71 [.i .i64 q, .i .i64 d, .i .i64 x] = some ⟨.i .i64 (upN q d x), []⟩ := by
  refine call_by (A := A71) rfl rfl ?_
  have hp := P_bound h.1 h.2.1
  have h2 := h.1
  have h3 := h.2.1
  have lo := hq.lo
  have hi := hq.hi
  have hh := P_half h.1
  have a0 : 0 ≤ q * x := Int.mul_nonneg (by omega) h0
  have a1 : q * x ≤ 8380417 * 8380417 := Int.mul_le_mul (by omega) (by have := h.2.2; omega) h0 (by omega)
  have w := u64_in (a := d) (by omega) (by omega)
  have w' := u64_in (a := d - 1) (by omega) (by omega)
  have w0 : IntKind.i64.wrap (d - 1) = d - 1 := i64_in _ (by omega)
  have s1 := shl_P (a := 1) (d := d - 1) (b := P (d - 1)) (by omega) (by omega) (by omega) (by omega)
  have w1 : IntKind.i64.wrap (q * x) = q * x := i64_in _ (by omega)
  have w2 : IntKind.i64.wrap (q * x + P (d - 1)) = q * x + P (d - 1) := i64_in _ (by omega)
  have s2 := shr_P (a := q * x + P (d - 1)) (d := d) (by omega) (by omega)
  have e : upN q d x = (q * x + P (d - 1)) / P d := rfl
  rw [← e] at s2
  simp (disch := first | assumption | omega | (simp only [List.length_cons, List.length_nil, List.length_set, List.length_append, List.length_replicate, List.length_map, List.length_range, List.length_take, List.length_drop, nums_length, bools_length, vecs_length]; first | done | omega)) [A71, w, w', s1, s2, w0, w1, w2, -shiftV_shl, -shiftV_shr]

theorem fDown (q n : Int) {d : Int} {x : AV} {L : List Int} (hq : Right q) (hx : IsL .i64 x L) (hb : Bits q d) (hm : Mods (q) L) (hs : L.length < 70000) : FF tab 27 [(.ag [.i .i64 (q), .i .i64 (n)]), .i .i64 d, x] = some ⟨.os (nums .i64 (downL q d L)) L.length 1, []⟩ := by
  refine call_by (A := A27) rfl rfl ?_
  have fx := hx.flat
  have hlen := lenV_isL hx
  simp (disch := first | assumption | omega | (simp only [List.length_cons, List.length_nil, List.length_set, List.length_append, List.length_replicate, List.length_map, List.length_range, List.length_take, List.length_drop, nums_length, bools_length, vecs_length]; first | done | omega)) [A27]
  refine w_heads L.length (fun k => ⟨[(8, .i .i64 k), (7, .rs 7 0 k 1), (3, .rf 3 0), (2, x), (1, .i .i64 d)], [(7, nums .i64 ((List.range k).map fun j => downN q d (ni L j))), (3, [.i .i64 q, .i .i64 n])]⟩) (by simp (disch := first | assumption | omega | (simp only [List.length_cons, List.length_nil, List.length_set, List.length_append, List.length_replicate, List.length_map, List.length_range, List.length_take, List.length_drop, nums_length, bools_length, vecs_length]; first | done | omega)) [nums_nil]) ?_ ?_
  · intro k hk
    have w1 : IntKind.i64.wrap ((k : Int) + 1) = (k : Int) + 1 := i64_in _ (by omega)
    have hkn : (k : Int).toNat = k := Int.toNat_natCast _
    have hix := ixSV_isL hx (k' := .i64) (j := (k : Int)) (by omega) (by omega)
    rw [hkn] at hix
    have hgx := nums_get (k := .i64) hk
    have hr := mods_at hm hk
    have h1 := fDown1 hq hb hr.1 hr.2
    have hmp := mapTo_succ (fun j => downN q d (ni L j)) k
    have hml : (nums .i64 ((List.range k).map fun j => downN q d (ni L j))).length = k := by simp [nums]
    have hsn := nums_snoc .i64 ((List.range k).map fun j => downN q d (ni L j)) (downN q d (ni L k))
    rw [← hmp] at hsn
    have hlt : (k : Int) < (L.length : Int) := by omega
    generalize hT : (k : Int) = T at *
    generalize downN q d (ni L k) = V at *
    generalize nums .i64 ((List.range k).map fun j => downN q d (ni L j)) = F at *
    generalize nums .i64 ((List.range (k + 1)).map fun j => downN q d (ni L j)) = F' at *
    simp (disch := first | assumption | omega | (simp only [List.length_cons, List.length_nil, List.length_set, List.length_append, List.length_replicate, List.length_map, List.length_range, List.length_take, List.length_drop, nums_length, bools_length, vecs_length]; first | done | omega)) [hlen, hix, hgx, h1, w1, hT, hsn]
  · rw [mapTo_of (downN q d), ← downL]
    have hdl := downL_len q d L
    have hnl := nums_length .i64 (downL q d L)
    generalize downL q d L = D at *
    simp (disch := first | assumption | omega | (simp only [List.length_cons, List.length_nil, List.length_set, List.length_append, List.length_replicate, List.length_map, List.length_range, List.length_take, List.length_drop, nums_length, bools_length, vecs_length]; first | done | omega)) [hlen, hdl]
theorem fUp (q n : Int) {d : Int} {x : AV} {L : List Int} (hq : Right q) (hx : IsL .i64 x L) (hb : Bits q d) (hm : Mods (P d) L) (hs : L.length < 70000) : FF tab 28 [(.ag [.i .i64 (q), .i .i64 (n)]), .i .i64 d, x] = some ⟨.os (nums .i64 (upL q d L)) L.length 1, []⟩ := by
  refine call_by (A := A28) rfl rfl ?_
  have fx := hx.flat
  have hlen := lenV_isL hx
  simp (disch := first | assumption | omega | (simp only [List.length_cons, List.length_nil, List.length_set, List.length_append, List.length_replicate, List.length_map, List.length_range, List.length_take, List.length_drop, nums_length, bools_length, vecs_length]; first | done | omega)) [A28]
  refine w_heads L.length (fun k => ⟨[(8, .i .i64 k), (7, .rs 7 0 k 1), (3, .rf 3 0), (2, x), (1, .i .i64 d)], [(7, nums .i64 ((List.range k).map fun j => upN q d (ni L j))), (3, [.i .i64 q, .i .i64 n])]⟩) (by simp (disch := first | assumption | omega | (simp only [List.length_cons, List.length_nil, List.length_set, List.length_append, List.length_replicate, List.length_map, List.length_range, List.length_take, List.length_drop, nums_length, bools_length, vecs_length]; first | done | omega)) [nums_nil]) ?_ ?_
  · intro k hk
    have w1 : IntKind.i64.wrap ((k : Int) + 1) = (k : Int) + 1 := i64_in _ (by omega)
    have hkn : (k : Int).toNat = k := Int.toNat_natCast _
    have hix := ixSV_isL hx (k' := .i64) (j := (k : Int)) (by omega) (by omega)
    rw [hkn] at hix
    have hgx := nums_get (k := .i64) hk
    have hr := mods_at hm hk
    have h1 := fUp1 hq hb hr.1 hr.2
    have hmp := mapTo_succ (fun j => upN q d (ni L j)) k
    have hml : (nums .i64 ((List.range k).map fun j => upN q d (ni L j))).length = k := by simp [nums]
    have hsn := nums_snoc .i64 ((List.range k).map fun j => upN q d (ni L j)) (upN q d (ni L k))
    rw [← hmp] at hsn
    have hlt : (k : Int) < (L.length : Int) := by omega
    generalize hT : (k : Int) = T at *
    generalize upN q d (ni L k) = V at *
    generalize nums .i64 ((List.range k).map fun j => upN q d (ni L j)) = F at *
    generalize nums .i64 ((List.range (k + 1)).map fun j => upN q d (ni L j)) = F' at *
    simp (disch := first | assumption | omega | (simp only [List.length_cons, List.length_nil, List.length_set, List.length_append, List.length_replicate, List.length_map, List.length_range, List.length_take, List.length_drop, nums_length, bools_length, vecs_length]; first | done | omega)) [hlen, hix, hgx, h1, w1, hT, hsn]
  · rw [mapTo_of (upN q d), ← upL]
    have hdl := upL_len q d L
    have hnl := nums_length .i64 (upL q d L)
    generalize upL q d L = D at *
    simp (disch := first | assumption | omega | (simp only [List.length_cons, List.length_nil, List.length_set, List.length_append, List.length_replicate, List.length_map, List.length_range, List.length_take, List.length_drop, nums_length, bools_length, vecs_length]; first | done | omega)) [hlen, hdl]

theorem fLoss (q n : Int) {d : Int} (hq : Right q) (hb : Bits q d) : FF tab 39 [(.ag [.i .i64 (q), .i .i64 (n)]), .i .i64 d] = some ⟨.i .i64 (lossN q d), []⟩ := by
  refine call_by (A := A39) rfl rfl ?_
  have lo := hq.lo
  have hi := hq.hi
  simp (disch := first | assumption | omega | (simp only [List.length_cons, List.length_nil, List.length_set, List.length_append, List.length_replicate, List.length_map, List.length_range, List.length_take, List.length_drop, nums_length, bools_length, vecs_length]; first | done | omega)) [A39]
  refine w_heads q.toNat (fun k => ⟨[(6, .i .i64 k), (5, .i .i64 (mostTo (lossAt q d) k)), (2, .rf 2 0), (1, .i .i64 d)], [(2, [.i .i64 q, .i .i64 n])]⟩) (by simp (disch := first | assumption | omega | (simp only [List.length_cons, List.length_nil, List.length_set, List.length_append, List.length_replicate, List.length_map, List.length_range, List.length_take, List.length_drop, nums_length, bools_length, vecs_length]; first | done | omega)) [mostTo]) ?_ ?_
  · intro k hk
    have w1 : IntKind.i64.wrap ((k : Int) + 1) = (k : Int) + 1 := i64_in _ (by omega)
    have hd1 := fDown1 (a := k) hq hb (by omega) (by omega)
    have hdb := downN_bound (a := k) hb
    have hu1 := fUp1 hq hb hdb.1 hdb.2
    have hub := upN_bound hq hb hdb.1 hdb.2
    have w2 : IntKind.i64.wrap (upN q d (downN q d k) - k) = upN q d (downN q d k) - k := i64_in _ (by omega)
    have hC := fCenter (upN q d (downN q d k) - k) hq
    have hc := cen_abs (upN q d (downN q d k) - k) hq
    have hA := fAbs (cen q (upN q d (downN q d k) - k)) (by omega)
    have er : mostTo (lossAt q d) (k + 1) = max (mostTo (lossAt q d) k) (absI (cen q (upN q d (downN q d k) - k))) := rfl
    have hlt : (k : Int) < q := by omega
    generalize hT : (k : Int) = T at *
    generalize cen q (upN q d (downN q d T) - T) = c at *
    generalize upN q d (downN q d T) = U at *
    generalize downN q d T = D at *
    generalize absI c = C at *
    simp (disch := first | assumption | omega | (simp only [List.length_cons, List.length_nil, List.length_set, List.length_append, List.length_replicate, List.length_map, List.length_range, List.length_take, List.length_drop, nums_length, bools_length, vecs_length]; first | done | omega)) [hd1, hu1, hC, hA, w1, w2, hT, mx2, er]
  · have e : ((q.toNat : Nat) : Int) = q := Int.toNat_of_nonneg (by omega)
    simp (disch := first | assumption | omega | (simp only [List.length_cons, List.length_nil, List.length_set, List.length_append, List.length_replicate, List.length_map, List.length_range, List.length_take, List.length_drop, nums_length, bools_length, vecs_length]; first | done | omega)) [e, lossN]
end Zab.YtcebddjidpbhgaaDoor
