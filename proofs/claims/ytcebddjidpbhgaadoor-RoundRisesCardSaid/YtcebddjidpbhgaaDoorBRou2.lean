/- Rounding: the loss, and the document's own. -/
import Derived.Test.YtcebddjidpbhgaaDoorBRound
namespace Zab.YtcebddjidpbhgaaDoorB
open Go
open Go.IntWalk (i64_in)
set_option maxRecDepth 100000
set_option linter.unusedSimpArgs false
set_option linter.unusedVariables false
attribute [-simp] getElem?_pos
attribute [local simp ↓] W_loop W_seq W_skip W_ret W_exit W_reg W_cond W_block W_pre cleanO_some freezes_nil freezes_cons frzO_some andThen_normal andThen_ret andThen_exit unblock_normal unblock_ret unblock_exit Ends_normal Ends_ret steps_nil steps_cons step_some st_move st_pick st_bin st_un st_conv st_addr sv_ixA sv_ixS sv_fld sv_ixV st_ixStr st_ext sv_build sv_bsl sv_mkS st_mkfn sv_lenS sv_len st_mn st_mx st_nilChk st_tas st_slc sv_loadg sv_load st_call sv_store sv_box sv_alloc sv_mkR sv_bslR sv_nilR sv_app st_callK stepsAt_some onSome_some onB_true onB_false onG_tt onG_tf onG_ft onG_ff onG_un optPut_some optMem_some
attribute [local simp] evalO evalL constAV get_cons get_nil put_cons put_nil look_cons look_nil putD_some clean_mk freeze_mk mapS del_cons del_nil keepS_cons keepS_nil keepL_cons keepL_nil memb_cons memb_nil unV pureV convV_i addrV toArgs anyRs hasSl2L fromRetL finR resL resV toRets one Nat.beq Nat.ble shiftV_shr shiftV_shl IntKind.bits fillV List.getElem?_cons_zero List.getElem?_cons_succ List.length_cons List.length_nil List.set_cons_zero List.set_cons_succ setR2 setR3 zrep_eqs binV_i binI_shl binI_shr binI_eqs binV_eqs intV_quo intV_rem hasSlL mapR_eqs kill1_eqs frz1_eqs enterS_eqs enterL_eqs isRs_eqs toArg_eqs from1_eqs from_eqs toRet_eqs lentOf_eqs countR_eqs hasSl1_eqs hasSl2_eqs hasSl_eqs cellsOf_ag1 cellsOf_ag2 cellsOf_ag3 cellsOf_ag4 cellsOf_ag5 partV_2 partV_3 partV_4 partV_5 toRet_own ownR_of toArg_rs seenR_all seenR_part appS_rs appR_of srcV_sl srcV_z nilS_z bslS_some dec_t dec_f buildV_some bslV_some boxS_some root_mk ixSV_sl ixSV_rs ixAV_rf ixAV_el ixVV_ag fldV_ag lenV_sl lenV_rs lenV_z lenSV_s loadV_rf loadV_el loadR_some partV_none partV_all partV_some storeV_rf setR_one setR_all cellsOf_ag cellsOf_i cellsOf_b cellsOf_sl cellsOf_z cellsOf_er cellsOf_nl cellsOf_np cellsOf_s mkSV_of mkRS_of fl_map fl_kill fl_frz fl_enterS fl_enterL fl_lentOf fl_toArg fl_isRs fl_toRet fl_from1 fl_from fl_cells fl_countR nums_length nums_get nums_set nums_append nums_snoc nums_drop nums_take nums_zrep nums_hasSl bools_length bools_get bools_set bools_snoc bools_zrep bools_hasSl vecs_length vecs_get vecs_snoc slcV_sl idxO idx Nat.zero_add Nat.mul_one Nat.add_zero stepsAt_some onSome_some onB_true onB_false onG_tt onG_tf onG_ft onG_ff onG_un optPut_some optMem_some

/-- What a number loses. -/
def lossAt (q d : Int) (j : Nat) : Int := cen q (upN q d (downN q d j) - j)
theorem mostTo_at (g : Nat → Int) {j : Nat} : ∀ {n : Nat}, j < n → absI (g j) ≤ mostTo g n
  | k + 1, h => by
    simp only [mostTo]
    by_cases e : j = k
    · subst e; omega
    · have := mostTo_at g (n := k) (j := j) (by omega); omega
def lossN (q d : Int) : Int := mostTo (lossAt q d) q.toNat
theorem lossN_bound {q : Int} (hq : Right q) (d : Int) : 0 ≤ lossN q d ∧ lossN q d < 8380417 :=
  ⟨mostTo_nonneg _ _, mostTo_lt (by omega) (fun j => cen_abs _ hq) _⟩
theorem lossN_at {q : Int} (d : Int) {j : Nat} (h : j < q.toNat) : absI (lossAt q d j) ≤ lossN q d := by
  exact mostTo_at (lossAt q d) h

theorem rLoss (q n : Int) {d : Int} (hq : Right q) (hn : Deg n) (hb : Bits q d) : FF tab 38 [(.ag [.i .i64 (q), .i .i64 (n)]), .i .i64 d] = some ⟨.tp [.i .i64 (lossN q d), .nl], []⟩ := by
  have hF := rFair q n d
  rw [fair_zero.2 ⟨hq, hn, hb⟩, show errV 0 = .nl from rfl] at hF
  refine call_by (A := A38) rfl rfl ?_
  have lo := hq.lo
  have hi := hq.hi
  simp (disch := first | assumption | omega | (simp only [List.length_cons, List.length_nil, List.length_set, List.length_append, List.length_replicate, List.length_map, List.length_range, List.length_take, List.length_drop, nums_length, bools_length, vecs_length]; first | done | omega)) [A38, hF]
  refine w_heads q.toNat (fun k => ⟨[(18, .i .i64 k), (17, .i .i64 q), (7, .i .i64 (mostTo (lossAt q d) k)), (2, .rf 2 0), (1, .i .i64 d)], [(2, [.i .i64 q, .i .i64 n])]⟩) (by simp (disch := first | assumption | omega | (simp only [List.length_cons, List.length_nil, List.length_set, List.length_append, List.length_replicate, List.length_map, List.length_range, List.length_take, List.length_drop, nums_length, bools_length, vecs_length]; first | done | omega)) [mostTo]) ?_ ?_
  · intro k hk
    have w1 : IntKind.i64.wrap ((k : Int) + 1) = (k : Int) + 1 := i64_in _ (by omega)
    have hd1 := Down1 (a := k) hq hb (by omega) (by omega)
    have hdb := downN_bound (a := k) hb
    have hu1 := Up1 hq hb hdb.1 hdb.2
    have hub := upN_bound hq hb hdb.1 hdb.2
    have w2 : IntKind.i64.wrap (upN q d (downN q d k) - k) = upN q d (downN q d k) - k := i64_in _ (by omega)
    have hC := Cen (upN q d (downN q d k) - k) hq
    have hc := cen_abs (upN q d (downN q d k) - k) hq
    have w3 : IntKind.i64.wrap (- cen q (upN q d (downN q d k) - k)) = - cen q (upN q d (downN q d k) - k) := i64_in _ (by omega)
    have er : mostTo (lossAt q d) (k + 1) = max (mostTo (lossAt q d) k) (max (cen q (upN q d (downN q d k) - k)) (- cen q (upN q d (downN q d k) - k))) := rfl
    have hlt : (k : Int) < q := by omega
    generalize hT : (k : Int) = T at *
    generalize cen q (upN q d (downN q d T) - T) = c at *
    generalize upN q d (downN q d T) = U at *
    generalize downN q d T = D at *
    simp (disch := first | assumption | omega | (simp only [List.length_cons, List.length_nil, List.length_set, List.length_append, List.length_replicate, List.length_map, List.length_range, List.length_take, List.length_drop, nums_length, bools_length, vecs_length]; first | done | omega)) [hd1, hu1, hC, w1, w2, w3, hT, mx3, er]
  · have e : ((q.toNat : Nat) : Int) = q := Int.toNat_of_nonneg (by omega)
    simp (disch := first | assumption | omega | (simp only [List.length_cons, List.length_nil, List.length_set, List.length_append, List.length_replicate, List.length_map, List.length_range, List.length_take, List.length_drop, nums_length, bools_length, vecs_length]; first | done | omega)) [e, lossN]
theorem rLoss_bad {q n d : Int} (hb : fairBad q n d ≠ 0) : FF tab 38 [(.ag [.i .i64 (q), .i .i64 (n)]), .i .i64 d] = some ⟨.tp [.i .i64 0, errV 101], []⟩ := by
  have hF := rFair q n d
  have hf : fairBad q n d = 101 := by rcases fair_two q n d with h | h; exact absurd h hb; exact h
  rw [hf] at hF
  rw [show errV 101 = .er 1 from rfl] at hF ⊢
  refine call_by (A := A38) rfl rfl ?_
  simp (disch := first | assumption | omega | (simp only [List.length_cons, List.length_nil, List.length_set, List.length_append, List.length_replicate, List.length_map, List.length_range, List.length_take, List.length_drop, nums_length, bools_length, vecs_length]; first | done | omega)) [A38, hF]




end Zab.YtcebddjidpbhgaaDoorB
