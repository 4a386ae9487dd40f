/- Vectors, number by number, in the document's words. -/
import Derived.Test.YtcebddjidpbhgaaDoorRef1
namespace Zab.YtcebddjidpbhgaaDoor
open Go
open Go.IntWalk (i64_in)
set_option maxRecDepth 100000
set_option linter.unusedSimpArgs false
set_option linter.unusedVariables false
attribute [-simp] getElem?_pos
attribute [local simp ↓] W_loop W_seq W_skip W_ret W_exit W_reg W_cond W_block W_pre cleanO_some freezes_nil freezes_cons frzO_some andThen_normal andThen_ret andThen_exit unblock_normal unblock_ret unblock_exit Ends_normal Ends_ret steps_nil steps_cons step_some st_move st_pick st_bin st_un st_conv st_addr sv_ixA sv_ixS sv_fld sv_ixV st_ixStr st_ext sv_build sv_bsl sv_mkS st_mkfn sv_lenS sv_len st_mn st_mx st_nilChk st_tas st_slc sv_loadg sv_load st_call sv_store sv_box sv_alloc sv_mkR sv_bslR sv_nilR sv_app sv_callK stepsAt_some onSome_some onB_true onB_false onG_tt onG_tf onG_ft onG_ff onG_un optPut_some optMem_some
attribute [local simp] evalO evalL constAV get_cons get_nil put_cons put_nil look_cons look_nil putD_some clean_mk freeze_mk mapS del_cons del_nil keepS_cons keepS_nil keepL_cons keepL_nil memb_cons memb_nil unV pureV convV_i addrV toArgs anyRs hasSl2L fromRetL finR resL resV toRets one Nat.beq Nat.ble shiftV_shr shiftV_shl IntKind.bits fillV List.getElem?_cons_zero List.getElem?_cons_succ List.length_cons List.length_nil List.set_cons_zero List.set_cons_succ setR2 setR3 zrep_eqs binV_i binI_shl binI_shr binI_eqs binV_eqs binV_slcE binV_slcN lendsC_some lends_nil lends_eqs fl_lends lends_rf lendsR_some lends_rs lendsS_some seesAny_no callK1_fn callK2_some callK3_some recvPut_some afterK_some afterK_none putAll_nil putAll_cons hasSlLL_nil hasSlLL_cons recv_os recv_op recv_no recvV_some recv_tp recvT_os recvT_op srcV_rs srcR_some List.append_nil intV_quo intV_rem hasSlL mapR_eqs kill1_eqs frz1_eqs enterS_eqs enterL_eqs isRs_eqs toArg_eqs from1_eqs from_eqs toRet_eqs lentOf_eqs countR_eqs hasSl1_eqs hasSl2_eqs hasSl_eqs cellsOf_ag1 cellsOf_ag2 cellsOf_ag3 cellsOf_ag4 cellsOf_ag5 partV_2 partV_3 partV_4 partV_5 toRet_own ownR_of toArg_rs seenR_all seenR_part appS_rs appR_of srcV_sl srcV_z nilS_z bslS_some dec_t dec_f buildV_some bslV_some boxS_some root_mk ixSV_sl ixSV_rs ixAV_rf ixAV_el ixVV_ag fldV_ag lenV_sl lenV_rs lenV_z lenSV_s loadV_rf loadV_el loadR_some partV_none partV_all partV_some storeV_rf setR_one setR_all cellsOf_ag cellsOf_i cellsOf_b cellsOf_sl cellsOf_z cellsOf_er cellsOf_nl cellsOf_np cellsOf_s mkSV_of mkRS_of fl_map fl_kill fl_frz fl_enterS fl_enterL fl_lentOf fl_toArg fl_isRs fl_toRet fl_from1 fl_from fl_cells fl_countR nums_length nums_get nums_set nums_append nums_snoc nums_drop nums_take nums_zrep nums_hasSl bools_length bools_get bools_set bools_snoc bools_zrep bools_hasSl vecs_length vecs_get vecs_snoc slcV_sl idxO idx Nat.zero_add Nat.mul_one Nat.add_zero stepsAt_some onSome_some onB_true onB_false onG_tt onG_tf onG_ft onG_ff onG_un optPut_some optMem_some

theorem zipTo_congr {g g' : Int → Int → Int} {L M : List Int} (h : ∀ j, j < L.length → g (ni L j) (ni M j) = g' (ni L j) (ni M j)) : zipTo g L M = zipTo g' L M := by
  unfold zipTo
  exact List.map_congr_left fun j hj => h j (List.mem_range.1 hj)
theorem fAdd (q n : Int) {x y : AV} {L M : List Int} (hx : IsL .i64 x L) (hy : IsL .i64 y M) (hL : vecBad q n L = 0) (hM : vecBad q n M = 0) : FF tab 53 [(.ag [.i .i64 (q), .i .i64 (n)]), x, y] = some ⟨.os (nums .i64 (zipTo (fun a b => (a + b) % q) L M)) L.length 1, []⟩ := by
  refine call_by (A := A53) rfl rfl ?_
  obtain ⟨hq, hd, hn, hm⟩ := vecBad_zero.1 hL
  obtain ⟨_, _, hn2, hm2⟩ := vecBad_zero.1 hM
  have lo := hq.lo
  have hi := hq.hi
  have dhi := hd.hi
  have fx := hx.flat
  have fy := hy.flat
  let g : Nat → Int := fun j => (fun a b => (a + b) % q) (ni L j) (ni M j)
  have hzip : zipTo (fun a b => (a + b) % q) L M = (List.range L.length).map g := rfl
  rw [hzip]
  simp (disch := first | assumption | omega | (simp only [List.length_cons, List.length_nil, List.length_set, List.length_append, List.length_replicate, List.length_map, List.length_range, List.length_take, List.length_drop, nums_length, bools_length, vecs_length]; first | done | omega)) [A53]
  refine w_heads L.length (fun k => ⟨[(8, .i .i64 k), (7, .rs 7 0 k 1), (3, .rf 3 0), (2, y), (1, x)], [(7, nums .i64 ((List.range k).map g)), (3, [.i .i64 q, .i .i64 n])]⟩) (by simp (disch := first | assumption | omega | (simp only [List.length_cons, List.length_nil, List.length_set, List.length_append, List.length_replicate, List.length_map, List.length_range, List.length_take, List.length_drop, nums_length, bools_length, vecs_length]; first | done | omega)) [nums_nil]) ?_ ?_
  · intro k hk
    have w1 : IntKind.i64.wrap ((k : Int) + 1) = (k : Int) + 1 := i64_in _ (by omega)
    have hkn : (k : Int).toNat = k := Int.toNat_natCast _
    have hix := ixSV_isL hx (k' := .i64) (j := (k : Int)) (by omega) (by omega)
    have hiy := ixSV_isL hy (k' := .i64) (j := (k : Int)) (by omega) (by omega)
    rw [hkn] at hix hiy
    have hgx := nums_get (k := .i64) hk
    have hgy := nums_get (k := .i64) (L := M) (j := k) (by omega)
    have a := mods_at hm hk
    have b := mods_at hm2 (j := k) (by omega)
    have w2 : IntKind.i64.wrap (ni L k + ni M k) = ni L k + ni M k := i64_in _ (by omega)
    have te : (ni L k + ni M k).tmod q = (ni L k + ni M k) % q := Int.tmod_eq_emod_of_nonneg (by omega)
    have hmp := mapTo_succ g k
    have hml : (nums .i64 ((List.range k).map g)).length = k := by simp [nums]
    have hsn := nums_snoc .i64 ((List.range k).map g) (g k)
    rw [← hmp] at hsn
    have hgk : g k = (ni L k + ni M k) % q := rfl
    rw [hgk] at hsn
    have hlt : (k : Int) < n := by omega
    have hq0 : q ≠ 0 := by omega
    generalize hT : (k : Int) = T at *
    generalize (ni L k + ni M k) % q = V' at *
    generalize nums .i64 ((List.range k).map g) = F at *
    generalize nums .i64 ((List.range (k + 1)).map g) = F' at *
    clear hgk hmp
    simp (disch := first | assumption | omega | (simp only [List.length_cons, List.length_nil, List.length_set, List.length_append, List.length_replicate, List.length_map, List.length_range, List.length_take, List.length_drop, nums_length, bools_length, vecs_length]; first | done | omega)) [hix, hiy, hgx, hgy, w2, te, w1, hT, hsn, hlt, hq0]
  · have hml : (nums .i64 ((List.range L.length).map g)).length = L.length := by simp [nums]
    generalize nums .i64 ((List.range L.length).map g) = D at *
    simp (disch := first | assumption | omega | (simp only [List.length_cons, List.length_nil, List.length_set, List.length_append, List.length_replicate, List.length_map, List.length_range, List.length_take, List.length_drop, nums_length, bools_length, vecs_length]; first | done | omega)) [hn]
theorem fSub (q n : Int) {x y : AV} {L M : List Int} (hx : IsL .i64 x L) (hy : IsL .i64 y M) (hL : vecBad q n L = 0) (hM : vecBad q n M = 0) : FF tab 54 [(.ag [.i .i64 (q), .i .i64 (n)]), x, y] = some ⟨.os (nums .i64 (zipTo (fun a b => (a - b) % q) L M)) L.length 1, []⟩ := by
  refine call_by (A := A54) rfl rfl ?_
  obtain ⟨hq, hd, hn, hm⟩ := vecBad_zero.1 hL
  obtain ⟨_, _, hn2, hm2⟩ := vecBad_zero.1 hM
  have lo := hq.lo
  have hi := hq.hi
  have dhi := hd.hi
  have fx := hx.flat
  have fy := hy.flat
  let g : Nat → Int := fun j => (fun a b => (a - b) % q) (ni L j) (ni M j)
  have hzip : zipTo (fun a b => (a - b) % q) L M = (List.range L.length).map g := rfl
  rw [hzip]
  simp (disch := first | assumption | omega | (simp only [List.length_cons, List.length_nil, List.length_set, List.length_append, List.length_replicate, List.length_map, List.length_range, List.length_take, List.length_drop, nums_length, bools_length, vecs_length]; first | done | omega)) [A54]
  refine w_heads L.length (fun k => ⟨[(8, .i .i64 k), (7, .rs 7 0 k 1), (3, .rf 3 0), (2, y), (1, x)], [(7, nums .i64 ((List.range k).map g)), (3, [.i .i64 q, .i .i64 n])]⟩) (by simp (disch := first | assumption | omega | (simp only [List.length_cons, List.length_nil, List.length_set, List.length_append, List.length_replicate, List.length_map, List.length_range, List.length_take, List.length_drop, nums_length, bools_length, vecs_length]; first | done | omega)) [nums_nil]) ?_ ?_
  · intro k hk
    have w1 : IntKind.i64.wrap ((k : Int) + 1) = (k : Int) + 1 := i64_in _ (by omega)
    have hkn : (k : Int).toNat = k := Int.toNat_natCast _
    have hix := ixSV_isL hx (k' := .i64) (j := (k : Int)) (by omega) (by omega)
    have hiy := ixSV_isL hy (k' := .i64) (j := (k : Int)) (by omega) (by omega)
    rw [hkn] at hix hiy
    have hgx := nums_get (k := .i64) hk
    have hgy := nums_get (k := .i64) (L := M) (j := k) (by omega)
    have a := mods_at hm hk
    have b := mods_at hm2 (j := k) (by omega)
    have w2 : IntKind.i64.wrap (ni L k + q) = ni L k + q := i64_in _ (by omega)
    have w3 : IntKind.i64.wrap (ni L k + q - ni M k) = ni L k + q - ni M k := i64_in _ (by omega)
    have te : (ni L k + q - ni M k).tmod q = (ni L k - ni M k) % q := by
      rw [Int.tmod_eq_emod_of_nonneg (by omega), show ni L k + q - ni M k = ni L k - ni M k + q by omega, Int.add_emod_right]
    have hmp := mapTo_succ g k
    have hml : (nums .i64 ((List.range k).map g)).length = k := by simp [nums]
    have hsn := nums_snoc .i64 ((List.range k).map g) (g k)
    rw [← hmp] at hsn
    have hgk : g k = (ni L k - ni M k) % q := rfl
    rw [hgk] at hsn
    have hlt : (k : Int) < n := by omega
    have hq0 : q ≠ 0 := by omega
    generalize hT : (k : Int) = T at *
    generalize (ni L k - ni M k) % q = V' at *
    generalize nums .i64 ((List.range k).map g) = F at *
    generalize nums .i64 ((List.range (k + 1)).map g) = F' at *
    clear hgk hmp
    simp (disch := first | assumption | omega | (simp only [List.length_cons, List.length_nil, List.length_set, List.length_append, List.length_replicate, List.length_map, List.length_range, List.length_take, List.length_drop, nums_length, bools_length, vecs_length]; first | done | omega)) [hix, hiy, hgx, hgy, w2, w3, te, w1, hT, hsn, hlt, hq0]
  · have hml : (nums .i64 ((List.range L.length).map g)).length = L.length := by simp [nums]
    generalize nums .i64 ((List.range L.length).map g) = D at *
    simp (disch := first | assumption | omega | (simp only [List.length_cons, List.length_nil, List.length_set, List.length_append, List.length_replicate, List.length_map, List.length_range, List.length_take, List.length_drop, nums_length, bools_length, vecs_length]; first | done | omega)) [hn]
theorem fPoint (q n : Int) {x y : AV} {L M : List Int} (hx : IsL .i64 x L) (hy : IsL .i64 y M) (hL : vecBad q n L = 0) (hM : vecBad q n M = 0) : FF tab 55 [(.ag [.i .i64 (q), .i .i64 (n)]), x, y] = some ⟨.os (nums .i64 (zipTo (fun a b => (a * b) % q) L M)) L.length 1, []⟩ := by
  refine call_by (A := A55) rfl rfl ?_
  obtain ⟨hq, hd, hn, hm⟩ := vecBad_zero.1 hL
  obtain ⟨_, _, hn2, hm2⟩ := vecBad_zero.1 hM
  have lo := hq.lo
  have hi := hq.hi
  have dhi := hd.hi
  have fx := hx.flat
  have fy := hy.flat
  let g : Nat → Int := fun j => (fun a b => (a * b) % q) (ni L j) (ni M j)
  have hzip : zipTo (fun a b => (a * b) % q) L M = (List.range L.length).map g := rfl
  rw [hzip]
  simp (disch := first | assumption | omega | (simp only [List.length_cons, List.length_nil, List.length_set, List.length_append, List.length_replicate, List.length_map, List.length_range, List.length_take, List.length_drop, nums_length, bools_length, vecs_length]; first | done | omega)) [A55]
  refine w_heads L.length (fun k => ⟨[(8, .i .i64 k), (7, .rs 7 0 k 1), (3, .rf 3 0), (2, y), (1, x)], [(7, nums .i64 ((List.range k).map g)), (3, [.i .i64 q, .i .i64 n])]⟩) (by simp (disch := first | assumption | omega | (simp only [List.length_cons, List.length_nil, List.length_set, List.length_append, List.length_replicate, List.length_map, List.length_range, List.length_take, List.length_drop, nums_length, bools_length, vecs_length]; first | done | omega)) [nums_nil]) ?_ ?_
  · intro k hk
    have w1 : IntKind.i64.wrap ((k : Int) + 1) = (k : Int) + 1 := i64_in _ (by omega)
    have hkn : (k : Int).toNat = k := Int.toNat_natCast _
    have hix := ixSV_isL hx (k' := .i64) (j := (k : Int)) (by omega) (by omega)
    have hiy := ixSV_isL hy (k' := .i64) (j := (k : Int)) (by omega) (by omega)
    rw [hkn] at hix hiy
    have hgx := nums_get (k := .i64) hk
    have hgy := nums_get (k := .i64) (L := M) (j := k) (by omega)
    have a := mods_at hm hk
    have b := mods_at hm2 (j := k) (by omega)
    have hM2 := fMul hq a.1 a.2 b.1 b.2
    have hmp := mapTo_succ g k
    have hml : (nums .i64 ((List.range k).map g)).length = k := by simp [nums]
    have hsn := nums_snoc .i64 ((List.range k).map g) (g k)
    rw [← hmp] at hsn
    have hgk : g k = ni L k * ni M k % q := rfl
    rw [hgk] at hsn
    have hlt : (k : Int) < n := by omega
    have hq0 : q ≠ 0 := by omega
    generalize hT : (k : Int) = T at *
    generalize ni L k * ni M k % q = V' at *
    generalize nums .i64 ((List.range k).map g) = F at *
    generalize nums .i64 ((List.range (k + 1)).map g) = F' at *
    clear hgk hmp
    simp (disch := first | assumption | omega | (simp only [List.length_cons, List.length_nil, List.length_set, List.length_append, List.length_replicate, List.length_map, List.length_range, List.length_take, List.length_drop, nums_length, bools_length, vecs_length]; first | done | omega)) [hix, hiy, hgx, hgy, hM2, w1, hT, hsn, hlt, hq0]
  · have hml : (nums .i64 ((List.range L.length).map g)).length = L.length := by simp [nums]
    generalize nums .i64 ((List.range L.length).map g) = D at *
    simp (disch := first | assumption | omega | (simp only [List.length_cons, List.length_nil, List.length_set, List.length_append, List.length_replicate, List.length_map, List.length_range, List.length_take, List.length_drop, nums_length, bools_length, vecs_length]; first | done | omega)) [hn]
theorem fScale (q n : Int) {x : AV} {L : List Int} (hx : IsL .i64 x L) (hL : vecBad q n L = 0) (k : Int) : FF tab 51 [(.ag [.i .i64 (q), .i .i64 (n)]), x, .i .i64 k] = some ⟨.os (nums .i64 (L.map fun a => a * (k % q) % q)) L.length 1, []⟩ := by
  refine call_by (A := A51) rfl rfl ?_
  obtain ⟨hq, hd, hn, hm⟩ := vecBad_zero.1 hL
  have lo := hq.lo
  have hi := hq.hi
  have dhi := hd.hi
  have fx := hx.flat
  have hk := fMod k hq
  have k0 := Int.emod_nonneg k (show q ≠ 0 by omega)
  have k1 := Int.emod_lt_of_pos k (show 0 < q by omega)
  generalize k % q = K at *
  rw [← mapTo_of (fun a => a * K % q) L]
  simp (disch := first | assumption | omega | (simp only [List.length_cons, List.length_nil, List.length_set, List.length_append, List.length_replicate, List.length_map, List.length_range, List.length_take, List.length_drop, nums_length, bools_length, vecs_length]; first | done | omega)) [A51, hk]
  refine w_heads L.length (fun k => ⟨[(9, .i .i64 k), (8, .rs 8 0 k 1), (7, .i .i64 K), (3, .rf 3 0), (1, x)], [(8, nums .i64 ((List.range k).map fun j => ni L j * K % q)), (3, [.i .i64 q, .i .i64 n])]⟩) (by simp (disch := first | assumption | omega | (simp only [List.length_cons, List.length_nil, List.length_set, List.length_append, List.length_replicate, List.length_map, List.length_range, List.length_take, List.length_drop, nums_length, bools_length, vecs_length]; first | done | omega)) [nums_nil]) ?_ ?_
  · intro k hk
    have w1 : IntKind.i64.wrap ((k : Int) + 1) = (k : Int) + 1 := i64_in _ (by omega)
    have hkn : (k : Int).toNat = k := Int.toNat_natCast _
    have hix := ixSV_isL hx (k' := .i64) (j := (k : Int)) (by omega) (by omega)
    rw [hkn] at hix
    have hgx := nums_get (k := .i64) hk
    have a := mods_at hm hk
    have hM2 := fMul hq a.1 a.2 k0 k1
    have hmp := mapTo_succ (fun j => ni L j * K % q) k
    have hml : (nums .i64 ((List.range k).map fun j => ni L j * K % q)).length = k := by simp [nums]
    have hsn := nums_snoc .i64 ((List.range k).map fun j => ni L j * K % q) (ni L k * K % q)
    rw [← hmp] at hsn
    have hlt : (k : Int) < n := by omega
    generalize hT : (k : Int) = T at *
    generalize ni L k * K % q = V' at *
    generalize nums .i64 ((List.range k).map fun j => ni L j * K % q) = F at *
    generalize nums .i64 ((List.range (k + 1)).map fun j => ni L j * K % q) = F' at *
    clear hmp
    simp (disch := first | assumption | omega | (simp only [List.length_cons, List.length_nil, List.length_set, List.length_append, List.length_replicate, List.length_map, List.length_range, List.length_take, List.length_drop, nums_length, bools_length, vecs_length]; first | done | omega)) [hix, hgx, hM2, w1, hT, hsn, hlt]
  · have hml : (nums .i64 ((List.range L.length).map fun j => ni L j * K % q)).length = L.length := by simp [nums]
    generalize nums .i64 ((List.range L.length).map fun j => ni L j * K % q) = D at *
    simp (disch := first | assumption | omega | (simp only [List.length_cons, List.length_nil, List.length_set, List.length_append, List.length_replicate, List.length_map, List.length_range, List.length_take, List.length_drop, nums_length, bools_length, vecs_length]; first | done | omega)) [hn]
theorem fNorm (q n : Int) {x : AV} {L : List Int} (hx : IsL .i64 x L) (hq : Right q) (hs : L.length < 9223372036854775807) : FF tab 52 [(.ag [.i .i64 (q), .i .i64 (n)]), x] = some ⟨.i .i64 (normL q L), []⟩ := by
  refine call_by (A := A52) rfl rfl ?_
  have fx := hx.flat
  have hlen := lenV_isL hx
  simp (disch := first | assumption | omega | (simp only [List.length_cons, List.length_nil, List.length_set, List.length_append, List.length_replicate, List.length_map, List.length_range, List.length_take, List.length_drop, nums_length, bools_length, vecs_length]; first | done | omega)) [A52]
  refine w_heads L.length (fun k => ⟨[(6, .i .i64 k), (5, .i .i64 (mostTo (fun j => cen q (ni L j)) k)), (2, .rf 2 0), (1, x)], [(2, [.i .i64 q, .i .i64 n])]⟩) (by simp (disch := first | assumption | omega | (simp only [List.length_cons, List.length_nil, List.length_set, List.length_append, List.length_replicate, List.length_map, List.length_range, List.length_take, List.length_drop, nums_length, bools_length, vecs_length]; first | done | omega)) [mostTo]) ?_ ?_
  · intro k hk
    have w1 : IntKind.i64.wrap ((k : Int) + 1) = (k : Int) + 1 := i64_in _ (by omega)
    have hkn : (k : Int).toNat = k := Int.toNat_natCast _
    have hix := ixSV_isL hx (k' := .i64) (j := (k : Int)) (by omega) (by omega)
    rw [hkn] at hix
    have hgx := nums_get (k := .i64) hk
    have hC := fCenter (ni L k) hq
    have hb := cen_abs (ni L k) hq
    have hA := fAbs (cen q (ni L k)) (by omega)
    have er : mostTo (fun j => cen q (ni L j)) (k + 1) = max (mostTo (fun j => cen q (ni L j)) k) (absI (cen q (ni L k))) := rfl
    have hlt : (k : Int) < (L.length : Int) := by omega
    generalize hT : (k : Int) = T at *
    generalize absI (cen q (ni L k)) = c' at *
    generalize cen q (ni L k) = c at *
    simp (disch := first | assumption | omega | (simp only [List.length_cons, List.length_nil, List.length_set, List.length_append, List.length_replicate, List.length_map, List.length_range, List.length_take, List.length_drop, nums_length, bools_length, vecs_length]; first | done | omega)) [hlen, hix, hgx, hkn, hC, hA, w1, hT, mx2, er, hlt]
  · simp (disch := first | assumption | omega | (simp only [List.length_cons, List.length_nil, List.length_set, List.length_append, List.length_replicate, List.length_map, List.length_range, List.length_take, List.length_drop, nums_length, bools_length, vecs_length]; first | done | omega)) [hlen, normL]
end Zab.YtcebddjidpbhgaaDoor
