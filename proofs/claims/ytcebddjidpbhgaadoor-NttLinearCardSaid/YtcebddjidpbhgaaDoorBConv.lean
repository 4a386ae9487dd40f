/- Products of polynomials modulo X^n + 1. -/
import Derived.Test.YtcebddjidpbhgaaDoorBRef1
import Derived.Test.YtcebddjidpbhgaaDoorZabSum
namespace Zab.YtcebddjidpbhgaaDoorB
open Go
open Go.IntWalk (i64_in)
set_option maxRecDepth 100000
set_option linter.unusedSimpArgs false
set_option linter.unusedVariables false
attribute [-simp] getElem?_pos
attribute [local simp ↓] W_loop W_seq W_skip W_ret W_exit W_reg W_cond W_block W_pre cleanO_some freezes_nil freezes_cons frzO_some andThen_normal andThen_ret andThen_exit unblock_normal unblock_ret unblock_exit Ends_normal Ends_ret steps_nil steps_cons step_some st_move st_pick st_bin st_un st_conv st_addr sv_ixA sv_ixS sv_fld sv_ixV st_ixStr st_ext sv_build sv_bsl sv_mkS st_mkfn sv_lenS sv_len st_mn st_mx st_nilChk st_tas st_slc sv_loadg sv_load st_call sv_store sv_box sv_alloc sv_mkR sv_bslR sv_nilR sv_app sv_callK stepsAt_some onSome_some onB_true onB_false onG_tt onG_tf onG_ft onG_ff onG_un optPut_some optMem_some
attribute [local simp] evalO evalL constAV get_cons get_nil put_cons put_nil look_cons look_nil putD_some clean_mk freeze_mk mapS del_cons del_nil keepS_cons keepS_nil keepL_cons keepL_nil memb_cons memb_nil unV pureV convV_i addrV toArgs anyRs hasSl2L fromRetL finR resL resV toRets one Nat.beq Nat.ble shiftV_shr shiftV_shl IntKind.bits fillV List.getElem?_cons_zero List.getElem?_cons_succ List.length_cons List.length_nil List.set_cons_zero List.set_cons_succ setR2 setR3 zrep_eqs binV_i binI_shl binI_shr binI_eqs binV_eqs binV_slcE binV_slcN lendsC_some lends_nil lends_eqs fl_lends lends_rf lendsR_some lends_rs lendsS_some seesAny_no callK1_fn callK2_some callK3_some recvPut_some afterK_some afterK_none putAll_nil putAll_cons hasSlLL_nil hasSlLL_cons recv_os recv_op recv_no recvV_some recv_tp recvT_os recvT_op srcV_rs srcR_some List.append_nil intV_quo intV_rem hasSlL mapR_eqs kill1_eqs frz1_eqs enterS_eqs enterL_eqs isRs_eqs toArg_eqs from1_eqs from_eqs toRet_eqs lentOf_eqs countR_eqs hasSl1_eqs hasSl2_eqs hasSl_eqs cellsOf_ag1 cellsOf_ag2 cellsOf_ag3 cellsOf_ag4 cellsOf_ag5 partV_2 partV_3 partV_4 partV_5 toRet_own ownR_of toArg_rs seenR_all seenR_part appS_rs appR_of srcV_sl srcV_z nilS_z bslS_some dec_t dec_f buildV_some bslV_some boxS_some root_mk ixSV_sl ixSV_rs ixAV_rf ixAV_el ixVV_ag fldV_ag lenV_sl lenV_rs lenV_z lenSV_s loadV_rf loadV_el loadR_some partV_none partV_all partV_some storeV_rf setR_one setR_all cellsOf_ag cellsOf_i cellsOf_b cellsOf_sl cellsOf_z cellsOf_er cellsOf_nl cellsOf_np cellsOf_s mkSV_of mkRS_of fl_map fl_kill fl_frz fl_enterS fl_enterL fl_lentOf fl_toArg fl_isRs fl_toRet fl_from1 fl_from fl_cells fl_countR nums_length nums_get nums_set nums_append nums_snoc nums_drop nums_take nums_zrep nums_hasSl bools_length bools_get bools_set bools_snoc bools_zrep bools_hasSl vecs_length vecs_get vecs_snoc slcV_sl idxO idx Nat.zero_add Nat.mul_one Nat.add_zero stepsAt_some onSome_some onB_true onB_false onG_tt onG_tf onG_ft onG_ff onG_un optPut_some optMem_some

/-- Which of the second's numbers the first's number i meets at the place k. -/
def hit (N i k : Nat) : Nat := if i ≤ k then k - i else N + k - i
/-- What it adds there. -/
def tm (L M : List Int) (N i k : Nat) : Int := if i ≤ k then ni L i * ni M (k - i) else -(ni L i * ni M (N + k - i))
/-- A product, and its numbers modulo q. -/
def rawN (L M : List Int) (N k : Nat) : Int := sumTo (fun i => tm L M N i k) N
def rawL (L M : List Int) : List Int := (List.range L.length).map fun k => rawN L M L.length k
def convL (q : Int) (L M : List Int) : List Int := (rawL L M).map (· % q)
theorem convL_len (q : Int) (L M : List Int) : (convL q L M).length = L.length := by simp [convL, rawL]
theorem ni_mods {q : Int} {L : List Int} (hq : 0 < q) (h : Mods q L) (j : Nat) : 0 ≤ ni L j ∧ ni L j < q := by
  by_cases hj : j < L.length
  · exact mods_at h hj
  · have : ni L j = 0 := by simp [ni, List.getD, List.getElem?_eq_none (Nat.le_of_not_lt hj)]
    omega
theorem tm_bound {q : Int} {L M : List Int} (hq : Right q) (hL : Mods q L) (hM : Mods q M) (N i k : Nat) : -70231389093889 ≤ tm L M N i k ∧ tm L M N i k ≤ 70231389093889 := by
  have lo := hq.lo
  unfold tm
  split
  · have h1 := ni_mods (by omega) hL i
    have h2 := ni_mods (by omega) hM (k - i)
    have := prod_bound hq h1.1 h1.2 h2.1 h2.2
    omega
  · have h1 := ni_mods (by omega) hL i
    have h2 := ni_mods (by omega) hM (N + k - i)
    have := prod_bound hq h1.1 h1.2 h2.1 h2.2
    omega
theorem sums_bound {q : Int} {L M : List Int} (hq : Right q) (hL : Mods q L) (hM : Mods q M) (N k : Nat) {n : Nat} (hn : n ≤ 256) : -17979235608035584 ≤ sumTo (fun i => tm L M N i k) n ∧ sumTo (fun i => tm L M N i k) n ≤ 17979235608035584 := by
  have := sumTo_bound (f := fun i => tm L M N i k) (B := 70231389093889) (by omega) (fun i => tm_bound hq hL hM N i k) n
  omega

/-- The numbers while the first's number i is at the second's number j. -/
def row (L M : List Int) (N i j : Nat) : List Int := (List.range N).map fun k => sumTo (fun i => tm L M N i k) i + if hit N i k < j then tm L M N i k else 0
theorem row_len (L M : List Int) (N i j : Nat) : (row L M N i j).length = N := by simp [row]
theorem row_zero (L M : List Int) (N : Nat) : row L M N 0 0 = List.replicate N 0 := by
  apply List.ext_getElem (by simp [row])
  intro j p q
  simp [row, sumTo]
theorem row_next (L M : List Int) {N i : Nat} (hi : i < N) : row L M N i N = row L M N (i + 1) 0 := by
  unfold row
  apply List.map_congr_left
  intro k hk
  have hk := List.mem_range.1 hk
  have : hit N i k < N := by unfold hit; split <;> omega
  rw [if_pos this, if_neg (by omega)]
  simp only [sumTo]; omega
theorem row_end (L M : List Int) (N : Nat) : row L M N N 0 = (List.range N).map fun k => rawN L M N k := by
  unfold row
  apply List.map_congr_left
  intro k hk
  rw [if_neg (by omega)]
  unfold rawN; omega
theorem row_at {L M : List Int} {N i j t : Nat} (ht : t < N) : ni (row L M N i j) t = sumTo (fun i => tm L M N i t) i + if hit N i t < j then tm L M N i t else 0 := ni_map ht
theorem row_bound {q : Int} {L M : List Int} (hq : Right q) (hL : Mods q L) (hM : Mods q M) {N i j t : Nat} (ht : t < N) (hi : i ≤ 256) : -18100000000000000 ≤ ni (row L M N i j) t ∧ ni (row L M N i j) t ≤ 18100000000000000 := by
  rw [row_at ht]
  have h1 := sums_bound hq hL hM N t hi
  have h2 := tm_bound hq hL hM N i t
  split <;> omega
theorem row_set {L M : List Int} {N i j t : Nat} (hi : i < N) (hj : j < N) (ht : t < N) (h : hit N i t = j) : (row L M N i j).set t (ni (row L M N i j) t + tm L M N i t) = row L M N i (j + 1) := by
  rw [row_at ht, if_neg (by omega)]
  apply List.ext_getElem (by simp [row])
  intro k p r
  simp only [List.getElem_set, row, List.getElem_map, List.getElem_range]
  by_cases e : t = k
  · subst e
    rw [if_pos rfl, if_pos (by omega)]; omega
  · rw [if_neg e]
    have : hit N i k ≠ j := by
      intro hk
      apply e
      have hkN : k < N := by simpa [row] using r
      unfold hit at h hk
      split at h <;> split at hk <;> omega
    by_cases h2 : hit N i k < j
    · rw [if_pos h2, if_pos (by omega)]
    · rw [if_neg h2, if_neg (by omega)]
theorem tm_up {L M : List Int} {N i j : Nat} (h : i + j < N) : tm L M N i (i + j) = ni L i * ni M j ∧ hit N i (i + j) = j := by
  unfold tm hit
  rw [if_pos (by omega), if_pos (by omega)]
  rw [show i + j - i = j by omega]; exact ⟨rfl, rfl⟩
theorem tm_down {L M : List Int} {N i j : Nat} (hi : i < N) (hj : j < N) (h : N ≤ i + j) : tm L M N i (i + j - N) = -(ni L i * ni M j) ∧ hit N i (i + j - N) = j := by
  unfold tm hit
  rw [if_neg (by omega), if_neg (by omega)]
  rw [show N + (i + j - N) - i = j by omega]; exact ⟨rfl, rfl⟩

theorem valid_two' (q n : Int) : valid q n = 0 ∨ valid q n = 101 := by unfold valid; split <;> simp

set_option maxHeartbeats 2000000 in
theorem rConv (q n : Int) {x y : AV} {L M : List Int} (hx : IsL .i64 x L) (hy : IsL .i64 y M) (hL : vecBad q n L = 0) (hM : vecBad q n M = 0) : FF tab 32 [(.ag [.i .i64 (q), .i .i64 (n)]), x, y] = some ⟨.tp [.sl (nums .i64 (convL q L M)) L.length, .nl], []⟩ := by
  have sL := vecBad_len hL
  have sM := vecBad_len hM
  have hB := rBoth q n (.two hx hy) (by intro K hK; simp only [List.mem_cons, List.not_mem_nil, or_false] at hK; rcases hK with rfl | rfl <;> omega) (by simp)
  rw [vecsBad_two.2 ⟨hL, hM⟩, show errV 0 = .nl from rfl, show [x, y].length = 2 from rfl] at hB
  obtain ⟨hq, hd, hn, hm⟩ := vecBad_zero.1 hL
  obtain ⟨_, _, hn2, hm2⟩ := vecBad_zero.1 hM
  refine call_by (A := A32) rfl rfl ?_
  have fx := hx.flat
  have fy := hy.flat
  have lx := lenV_isL hx
  have ly := lenV_isL hy
  have lo := hd.lo
  have hi := hd.hi
  have hN : n.toNat = L.length := by omega
  have hv : valid q n = 0 := if_pos ⟨hq, hd⟩
  have hR := rMod q n hv (.mk .i64 (rawL L M)) (by simp only [rawL, List.length_map, List.length_range]; exact hn)
  simp only [slv, rawL, List.length_map, List.length_range] at hR
  simp (disch := first | assumption | omega | (simp only [List.length_cons, List.length_nil, List.length_set, List.length_append, List.length_replicate, List.length_map, List.length_range, List.length_take, List.length_drop, nums_length, bools_length, vecs_length]; first | done | omega)) [A32, hB, hN, lx]
  have hz := row_zero L M L.length
  have hml : M.length = L.length := by omega
  rw [hml] at ly
  have hLM : ((L.length : Nat) : Int) = n := hn
  rw [hLM] at ly
  refine w_heads L.length (fun i => ⟨[(28, .i .i64 i), (27, .i .i64 n), (26, x), (9, .rs 25 0 L.length 1), (3, .rf 3 0), (2, y)], [(25, nums .i64 (row L M L.length i 0)), (3, [.i .i64 q, .i .i64 n])]⟩) (by rw [hz]; simp (disch := first | assumption | omega | (simp only [List.length_cons, List.length_nil, List.length_set, List.length_append, List.length_replicate, List.length_map, List.length_range, List.length_take, List.length_drop, nums_length, bools_length, vecs_length]; first | done | omega)) [← hn]) ?_ ?_
  · intro i hk
    have w1 : IntKind.i64.wrap ((i : Int) + 1) = (i : Int) + 1 := i64_in _ (by omega)
    have hkn : (i : Int).toNat = i := Int.toNat_natCast _
    have hix := ixSV_isL hx (k' := .i64) (j := (i : Int)) (by omega) (by omega)
    rw [hkn] at hix
    have hgx := nums_get (k := .i64) hk
    have hlt : (i : Int) < n := by omega
    simp (disch := first | assumption | omega | (simp only [List.length_cons, List.length_nil, List.length_set, List.length_append, List.length_replicate, List.length_map, List.length_range, List.length_take, List.length_drop, nums_length, bools_length, vecs_length]; first | done | omega)) [hix, hgx, ly, hlt]
    refine w_heads L.length (fun j => ⟨[(35, .i .i64 j), (34, .i .i64 n), (33, y), (28, .i .i64 i), (27, .i .i64 n), (26, x), (11, .i .i64 (ni L i)), (10, .i .i64 i), (9, .rs 25 0 L.length 1), (3, .rf 3 0), (2, y)], [(25, nums .i64 (row L M L.length i j)), (3, [.i .i64 q, .i .i64 n])]⟩) (by simp (disch := first | assumption | omega | (simp only [List.length_cons, List.length_nil, List.length_set, List.length_append, List.length_replicate, List.length_map, List.length_range, List.length_take, List.length_drop, nums_length, bools_length, vecs_length]; first | done | omega)) []) ?_ ?_
    · intro j hj
      have wj : IntKind.i64.wrap ((j : Int) + 1) = (j : Int) + 1 := i64_in _ (by omega)
      have wij : IntKind.i64.wrap ((i : Int) + (j : Int)) = (i : Int) + (j : Int) := i64_in _ (by omega)
      have hjn : (j : Int).toNat = j := Int.toNat_natCast _
      have hiy := ixSV_isL hy (k' := .i64) (j := (j : Int)) (by omega) (by omega)
      rw [hjn] at hiy
      have hgy := nums_get (k := .i64) (L := M) (j := j) (by omega)
      have b1 := mods_at hm hk
      have b2 := mods_at hm2 (j := j) (by omega)
      have pb := prod_bound hq b1.1 b1.2 b2.1 b2.2
      have wp : IntKind.i64.wrap (ni L i * ni M j) = ni L i * ni M j := i64_in _ (by omega)
      have hrl := row_len L M L.length i j
      have hlt2 : (j : Int) < n := by omega
      by_cases hc : n ≤ (i : Int) + (j : Int)
      · have hc' : L.length ≤ i + j := by omega
        obtain ⟨t1, t2⟩ := tm_down (L := L) (M := M) hk hj hc'
        have hs := row_set (L := L) (M := M) hk hj (show i + j - L.length < L.length by omega) t2
        have hrb := row_bound (L := L) (M := M) hq hm hm2 (i := i) (j := j) (show i + j - L.length < L.length by omega) (by omega)
        have hg := nums_get (k := .i64) (L := row L M L.length i j) (j := i + j - L.length) (by omega)
        rw [t1, ← Int.sub_eq_add_neg] at hs
        have wd : IntKind.i64.wrap ((i : Int) + (j : Int) - n) = (i : Int) + (j : Int) - n := i64_in _ (by omega)
        have hdn : ((i : Int) + (j : Int) - n).toNat = i + j - L.length := by omega
        have w2 : IntKind.i64.wrap (ni (row L M L.length i j) (i + j - L.length) - ni L i * ni M j) = ni (row L M L.length i j) (i + j - L.length) - ni L i * ni M j := i64_in _ (by omega)
        have hd0 : 0 ≤ (i : Int) + (j : Int) - n ∧ (i : Int) + (j : Int) - n < (L.length : Int) := by omega
        generalize row L M L.length i (j + 1) = R' at *
        generalize row L M L.length i j = R at *
        generalize i + j - L.length = t at *
        simp (disch := first | assumption | omega | (simp only [List.length_cons, List.length_nil, List.length_set, List.length_append, List.length_replicate, List.length_map, List.length_range, List.length_take, List.length_drop, nums_length, bools_length, vecs_length]; first | done | omega)) [hiy, hgy, wj, wij, wp, hc, hdn, hg, w2, nums_set, hs, wd, hlt2]
      · have hc' : i + j < L.length := by omega
        obtain ⟨t1, t2⟩ := tm_up (L := L) (M := M) hc'
        have hs := row_set (L := L) (M := M) hk hj hc' t2
        have hrb := row_bound (L := L) (M := M) hq hm hm2 (i := i) (j := j) hc' (by omega)
        have hg := nums_get (k := .i64) (L := row L M L.length i j) (j := i + j) (by omega)
        rw [t1] at hs
        have hdn : ((i : Int) + (j : Int)).toNat = i + j := by omega
        have w2 : IntKind.i64.wrap (ni (row L M L.length i j) (i + j) + ni L i * ni M j) = ni (row L M L.length i j) (i + j) + ni L i * ni M j := i64_in _ (by omega)
        have hd0 : 0 ≤ (i : Int) + (j : Int) ∧ (i : Int) + (j : Int) < (L.length : Int) := by omega
        generalize row L M L.length i (j + 1) = R' at *
        generalize row L M L.length i j = R at *
        generalize i + j = t at *
        simp (disch := first | assumption | omega | (simp only [List.length_cons, List.length_nil, List.length_set, List.length_append, List.length_replicate, List.length_map, List.length_range, List.length_take, List.length_drop, nums_length, bools_length, vecs_length]; first | done | omega)) [hiy, hgy, wj, wij, wp, hc, hdn, hg, w2, nums_set, hs, hlt2]
    · rw [row_next L M hk]
      have hnl : ¬ ((L.length : Nat) : Int) < n := by omega
      simp (disch := first | assumption | omega | (simp only [List.length_cons, List.length_nil, List.length_set, List.length_append, List.length_replicate, List.length_map, List.length_range, List.length_take, List.length_drop, nums_length, bools_length, vecs_length]; first | done | omega)) [hn, w1]
  · rw [row_end]
    have hrl : ((List.range L.length).map fun k => rawN L M L.length k).length = L.length := by simp
    have e : convL q L M = ((List.range L.length).map fun k => rawN L M L.length k).map (· % q) := rfl
    rw [e]
    have hrl2 : (((List.range L.length).map fun k => rawN L M L.length k).map (· % q)).length = L.length := by simp
    generalize ((List.range L.length).map fun k => rawN L M L.length k) = R at *
    generalize R.map (· % q) = R2 at *
    have hnl : ¬ ((L.length : Nat) : Int) < n := by omega
    simp (disch := first | assumption | omega | (simp only [List.length_cons, List.length_nil, List.length_set, List.length_append, List.length_replicate, List.length_map, List.length_range, List.length_take, List.length_drop, nums_length, bools_length, vecs_length]; first | done | omega)) [hn, hR]
theorem rConv_bad (q n : Int) {x y : AV} {L M : List Int} (hx : IsL .i64 x L) (hy : IsL .i64 y M) (hsL : L.length < 9223372036854775807) (hsM : M.length < 9223372036854775807) (hb : vecsBad q n [L, M] ≠ 0) : FF tab 32 [(.ag [.i .i64 (q), .i .i64 (n)]), x, y] = some ⟨.tp [.z, errV (vecsBad q n [L, M])], []⟩ := by
  have hB := rBoth q n (.two hx hy) (by intro K hK; simp only [List.mem_cons, List.not_mem_nil, or_false] at hK; rcases hK with rfl | rfl <;> omega) (by simp)
  rw [show [x, y].length = 2 from rfl] at hB
  have hc := vecsBad_code q n [L, M]
  generalize vecsBad q n [L, M] = c at *
  have fe := errV_flat c
  have ne := errV_ne hc
  refine call_by (A := A32) rfl rfl ?_
  have fx := hx.flat
  have fy := hy.flat
  simp (disch := first | assumption | omega | (simp only [List.length_cons, List.length_nil, List.length_set, List.length_append, List.length_replicate, List.length_map, List.length_range, List.length_take, List.length_drop, nums_length, bools_length, vecs_length]; first | done | omega)) [A32, hB, ne, hb]



end Zab.YtcebddjidpbhgaaDoorB
