/- Polynomials, number by number. -/
import Derived.Test.YtcebddjidpbhgaaDoorCErr
namespace Zab.YtcebddjidpbhgaaDoorC
open Go
open Go.IntWalk (i64_in)
set_option maxRecDepth 100000
set_option linter.unusedSimpArgs false
set_option linter.unusedVariables false
attribute [-simp] getElem?_pos
attribute [local simp ↓] W_loop W_seq W_skip W_ret W_exit W_reg W_cond W_block W_pre cleanO_some freezes_nil freezes_cons frzO_some andThen_normal andThen_ret andThen_exit unblock_normal unblock_ret unblock_exit Ends_normal Ends_ret steps_nil steps_cons step_some st_move st_pick st_bin st_un st_conv st_addr sv_ixA sv_ixS sv_fld sv_ixV st_ixStr st_ext sv_build sv_bsl sv_mkS st_mkfn sv_lenS sv_len st_mn st_mx st_nilChk st_tas st_slc sv_loadg sv_load st_call sv_store sv_box sv_alloc sv_mkR sv_bslR sv_nilR sv_app sv_callK stepsAt_some onSome_some onB_true onB_false onG_tt onG_tf onG_ft onG_ff onG_un optPut_some optMem_some
attribute [local simp] evalO evalL constAV get_cons get_nil put_cons put_nil look_cons look_nil putD_some clean_mk freeze_mk mapS del_cons del_nil keepS_cons keepS_nil keepL_cons keepL_nil memb_cons memb_nil unV pureV convV_i addrV toArgs anyRs hasSl2L fromRetL finR resL resV toRets one Nat.beq Nat.ble shiftV_shr shiftV_shl IntKind.bits fillV List.getElem?_cons_zero List.getElem?_cons_succ List.length_cons List.length_nil List.set_cons_zero List.set_cons_succ setR2 setR3 zrep_eqs binV_i binI_shl binI_shr binI_eqs binV_eqs binV_slcE binV_slcN lendsC_some lends_nil lends_eqs fl_lends lends_rf lendsR_some lends_rs lendsS_some seesAny_no callK1_fn callK2_some callK3_some recvPut_some afterK_some afterK_none putAll_nil putAll_cons hasSlLL_nil hasSlLL_cons recv_os recv_op recv_no recvV_some recv_tp recvT_os recvT_op srcV_rs srcR_some List.append_nil intV_quo intV_rem hasSlL mapR_eqs kill1_eqs frz1_eqs enterS_eqs enterL_eqs isRs_eqs toArg_eqs from1_eqs from_eqs toRet_eqs lentOf_eqs countR_eqs hasSl1_eqs hasSl2_eqs hasSl_eqs cellsOf_ag1 cellsOf_ag2 cellsOf_ag3 cellsOf_ag4 cellsOf_ag5 partV_2 partV_3 partV_4 partV_5 toRet_own ownR_of toArg_rs seenR_all seenR_part appS_rs appR_of srcV_sl srcV_z nilS_z bslS_some dec_t dec_f buildV_some bslV_some boxS_some root_mk ixSV_sl ixSV_rs ixAV_rf ixAV_el ixVV_ag fldV_ag lenV_sl lenV_rs lenV_z lenSV_s loadV_rf loadV_el loadR_some partV_none partV_all partV_some storeV_rf setR_one setR_all cellsOf_ag cellsOf_i cellsOf_b cellsOf_sl cellsOf_z cellsOf_er cellsOf_nl cellsOf_np cellsOf_s mkSV_of mkRS_of fl_map fl_kill fl_frz fl_enterS fl_enterL fl_lentOf fl_toArg fl_isRs fl_toRet fl_from1 fl_from fl_cells fl_countR nums_length nums_get nums_set nums_append nums_snoc nums_drop nums_take nums_zrep nums_hasSl bools_length bools_get bools_set bools_snoc bools_zrep bools_hasSl vecs_length vecs_get vecs_snoc slcV_sl idxO idx Nat.zero_add Nat.mul_one Nat.add_zero stepsAt_some onSome_some onB_true onB_false onG_tt onG_tf onG_ft onG_ff onG_un optPut_some optMem_some

/-- The first that is amiss. -/
def vecsBad (q n : Int) : List (List Int) → Nat
  | [] => 0
  | L :: r => if vecBad q n L = 0 then vecsBad q n r else vecBad q n L
theorem vecsBad_at {q n : Int} : ∀ {Ls : List (List Int)} {k : Nat} (hk : k < Ls.length), (∀ j (h : j < Ls.length), j < k → vecBad q n Ls[j] = 0) → vecBad q n Ls[k] ≠ 0 → vecsBad q n Ls = vecBad q n Ls[k]
  | L :: r, 0, hk, _, h => by simp only [vecsBad, List.getElem_cons_zero] at h ⊢; rw [if_neg h]
  | L :: r, k + 1, hk, hp, h => by
    have h0 := hp 0 (by simp) (by omega)
    simp only [List.getElem_cons_zero] at h0
    simp only [vecsBad, List.getElem_cons_succ] at h ⊢
    rw [if_pos h0]
    exact vecsBad_at (k := k) (Nat.lt_of_succ_lt_succ hk) (fun j hj hlt => hp (j + 1) (Nat.succ_lt_succ hj) (by omega)) h
theorem vecsBad_all {q n : Int} : ∀ {Ls : List (List Int)}, (∀ j (h : j < Ls.length), vecBad q n Ls[j] = 0) → vecsBad q n Ls = 0
  | [], _ => rfl
  | L :: r, h => by
    have h0 := h 0 (by simp)
    simp only [List.getElem_cons_zero] at h0
    simp only [vecsBad, h0, if_true]
    exact vecsBad_all fun j hj => h (j + 1) (Nat.succ_lt_succ hj)
theorem vecsBad_code (q n : Int) : ∀ Ls, Code (vecsBad q n Ls)
  | [] => .inl rfl
  | L :: r => by unfold vecsBad; split; exact vecsBad_code q n r; exact vecBad_code q n L
theorem vecsBad_one (q n : Int) (L : List Int) : vecsBad q n [L] = vecBad q n L := by
  unfold vecsBad vecsBad; split <;> simp_all
theorem vecsBad_two {q n : Int} {L M : List Int} : vecsBad q n [L, M] = 0 ↔ vecBad q n L = 0 ∧ vecBad q n M = 0 := by
  unfold vecsBad vecsBad vecsBad
  split
  · rename_i h; split
    · rename_i h2; simp [h, h2]
    · rename_i h2; simp [h, h2]
  · rename_i h; simp [h]

theorem vecBad_len {q n : Int} {L : List Int} (h : vecBad q n L = 0) : L.length ≤ 256 := by
  obtain ⟨_, hd, hn, _⟩ := vecBad_zero.1 h
  have := hd.hi
  omega

def zipTo (g : Int → Int → Int) (L M : List Int) : List Int := (List.range L.length).map fun j => g (ni L j) (ni M j)
theorem zipTo_len (g : Int → Int → Int) (L M : List Int) : (zipTo g L M).length = L.length := by simp [zipTo]
theorem zipTo_ni (g : Int → Int → Int) (L M : List Int) {j : Nat} (h : j < L.length) : ni (zipTo g L M) j = g (ni L j) (ni M j) := ni_map h

/-- Nearest to 0. -/
def cen (q a : Int) : Int := if (q - 1) / 2 < a % q then a % q - q else a % q
theorem cen_abs (a : Int) {q : Int} (h : Right q) : -8380417 < cen q a ∧ cen q a < 8380417 := by
  have lo := h.lo
  have hi := h.hi
  have a0 := Int.emod_nonneg a (show q ≠ 0 by omega)
  have a1 := Int.emod_lt_of_pos a (show 0 < q by omega)
  unfold cen
  split <;> omega
def absI (a : Int) : Int := max a (-a)
/-- The greatest of the first. -/
def mostTo (g : Nat → Int) : Nat → Int
  | 0 => 0
  | k + 1 => max (mostTo g k) (absI (g k))
theorem mostTo_nonneg (g : Nat → Int) : ∀ k, 0 ≤ mostTo g k
  | 0 => Int.le_refl _
  | k + 1 => by have := mostTo_nonneg g k; simp only [mostTo]; omega
def normL (q : Int) (L : List Int) : Int := mostTo (fun j => cen q (ni L j)) L.length

theorem mostTo_lt {g : Nat → Int} {B : Int} (hB : 0 < B) (h : ∀ j, -B < g j ∧ g j < B) : ∀ k, mostTo g k < B
  | 0 => hB
  | k + 1 => by have := mostTo_lt hB h k; have := h k; simp only [mostTo, absI]; omega

theorem mx3 (a b c : Int) : maxV (.i .i64 a) [.i .i64 b, .i .i64 c] = some (.i .i64 (max a (max b c))) := by
  simp only [maxV, decide_true, cond_true]
  congr 2
  split <;> split <;> omega

end Zab.YtcebddjidpbhgaaDoorC
