/- Polynomials, number by number. -/
import Derived.Test.YtcebddjidpbhgaaDoorBErr
namespace Zab.YtcebddjidpbhgaaDoorB
open Go
open Go.IntWalk (i64_in)
set_option maxRecDepth 100000
set_option linter.unusedSimpArgs false
set_option linter.unusedVariables false
attribute [-simp] getElem?_pos
attribute [local simp ↓] W_loop W_seq W_skip W_ret W_exit W_reg W_cond W_block W_pre cleanO_some freezes_nil freezes_cons frzO_some andThen_normal andThen_ret andThen_exit unblock_normal unblock_ret unblock_exit Ends_normal Ends_ret steps_nil steps_cons step_some st_move st_pick st_bin st_un st_conv st_addr sv_ixA sv_ixS sv_fld sv_ixV st_ixStr st_ext sv_build sv_bsl sv_mkS st_mkfn sv_lenS sv_len st_mn st_mx st_nilChk st_tas st_slc sv_loadg sv_load st_call sv_store sv_box sv_alloc sv_mkR sv_bslR sv_nilR sv_app sv_callK stepsAt_some onSome_some onB_true onB_false onG_tt onG_tf onG_ft onG_ff onG_un optPut_some optMem_some
attribute [local simp] evalO evalL constAV get_cons get_nil put_cons put_nil look_cons look_nil putD_some clean_mk freeze_mk mapS del_cons del_nil keepS_cons keepS_nil keepL_cons keepL_nil memb_cons memb_nil unV pureV convV_i addrV toArgs anyRs hasSl2L fromRetL finR resL resV toRets one Nat.beq Nat.ble shiftV_shr shiftV_shl IntKind.bits fillV List.getElem?_cons_zero List.getElem?_cons_succ List.length_cons List.length_nil List.set_cons_zero List.set_cons_succ setR2 setR3 zrep_eqs binV_i binI_shl binI_shr binI_eqs binV_eqs binV_slcE binV_slcN lendsC_some lends_nil lends_eqs fl_lends lends_rf lendsR_some lends_rs lendsS_some seesAny_no callK1_fn callK2_some callK3_some recvPut_some afterK_some afterK_none putAll_nil putAll_cons hasSlLL_nil hasSlLL_cons recv_os recv_op recv_no recvV_some recv_tp recvT_os recvT_op srcV_rs srcR_some List.append_nil intV_quo intV_rem hasSlL mapR_eqs kill1_eqs frz1_eqs enterS_eqs enterL_eqs isRs_eqs toArg_eqs from1_eqs from_eqs toRet_eqs lentOf_eqs countR_eqs hasSl1_eqs hasSl2_eqs hasSl_eqs cellsOf_ag1 cellsOf_ag2 cellsOf_ag3 cellsOf_ag4 cellsOf_ag5 partV_2 partV_3 partV_4 partV_5 toRet_own ownR_of toArg_rs seenR_all seenR_part appS_rs appR_of srcV_sl srcV_z nilS_z bslS_some dec_t dec_f buildV_some bslV_some boxS_some root_mk ixSV_sl ixSV_rs ixAV_rf ixAV_el ixVV_ag fldV_ag lenV_sl lenV_rs lenV_z lenSV_s loadV_rf loadV_el loadR_some partV_none partV_all partV_some storeV_rf setR_one setR_all cellsOf_ag cellsOf_i cellsOf_b cellsOf_sl cellsOf_z cellsOf_er cellsOf_nl cellsOf_np cellsOf_s mkSV_of mkRS_of fl_map fl_kill fl_frz fl_enterS fl_enterL fl_lentOf fl_toArg fl_isRs fl_toRet fl_from1 fl_from fl_cells fl_countR nums_length nums_get nums_set nums_append nums_snoc nums_drop nums_take nums_zrep nums_hasSl bools_length bools_get bools_set bools_snoc bools_zrep bools_hasSl vecs_length vecs_get vecs_snoc slcV_sl idxO idx Nat.zero_add Nat.mul_one Nat.add_zero stepsAt_some onSome_some onB_true onB_false onG_tt onG_tf onG_ft onG_ff onG_un optPut_some optMem_some

/-- The first that is amiss. -/
def vecsBad (q n : Int) : List (List Int) → Nat
  | [] => 0
  | L :: r => if vecBad q n L = 0 then vecsBad q n r else vecBad q n L
theorem vecsBad_at {q n : Int} : ∀ {Ls : List (List Int)} {k : Nat} (hk : k < Ls.length), (∀ j (h : j < Ls.length), j < k → vecBad q n Ls[j] = 0) → vecBad q n Ls[k] ≠ 0 → vecsBad q n Ls = vecBad q n Ls[k]
  | L :: r, 0, hk, _, h => by simp only [vecsBad, List.getElem_cons_zero] at h ⊢; rw [if_neg h]
  | L :: r, k + 1, hk, hp, h => by
    have h0 := hp 0 (by simp) (by omega)
    simp only [List.getElem_cons_zero] at h0
    simp only [vecsBad, List.getElem_cons_succ] at h ⊢
    rw [if_pos h0]
    exact vecsBad_at (k := k) (Nat.lt_of_succ_lt_succ hk) (fun j hj hlt => hp (j + 1) (Nat.succ_lt_succ hj) (by omega)) h
theorem vecsBad_all {q n : Int} : ∀ {Ls : List (List Int)}, (∀ j (h : j < Ls.length), vecBad q n Ls[j] = 0) → vecsBad q n Ls = 0
  | [], _ => rfl
  | L :: r, h => by
    have h0 := h 0 (by simp)
    simp only [List.getElem_cons_zero] at h0
    simp only [vecsBad, h0, if_true]
    exact vecsBad_all fun j hj => h (j + 1) (Nat.succ_lt_succ hj)
theorem vecsBad_code (q n : Int) : ∀ Ls, Code (vecsBad q n Ls)
  | [] => .inl rfl
  | L :: r => by unfold vecsBad; split; exact vecsBad_code q n r; exact vecBad_code q n L
theorem vecsBad_one (q n : Int) (L : List Int) : vecsBad q n [L] = vecBad q n L := by
  unfold vecsBad vecsBad; split <;> simp_all
theorem vecsBad_two {q n : Int} {L M : List Int} : vecsBad q n [L, M] = 0 ↔ vecBad q n L = 0 ∧ vecBad q n M = 0 := by
  unfold vecsBad vecsBad vecsBad
  split
  · rename_i h; split
    · rename_i h2; simp [h, h2]
    · rename_i h2; simp [h, h2]
  · rename_i h; simp [h]

set_option maxHeartbeats 1000000 in
theorem rBoth (q n : Int) {xs : List AV} {Ls : List (List Int)} (hx : IsLs .i64 xs Ls) (hs : ∀ L ∈ Ls, L.length < 9223372036854775807) (hm : xs.length < 9223372036854775807) : FF tab 72 [(.ag [.i .i64 (q), .i .i64 (n)]), .sl xs xs.length] = some ⟨errV (vecsBad q n Ls), []⟩ := by
  refine call_by (A := A72) rfl rfl ?_
  simp (disch := first | assumption | omega | (simp only [List.length_cons, List.length_nil, List.length_set, List.length_append, List.length_replicate, List.length_map, List.length_range, List.length_take, List.length_drop, nums_length, bools_length, vecs_length]; first | done | omega)) [A72]
  refine w_headsP xs.length (fun k => ⟨[(10, .i .i64 k), (9, .i .i64 xs.length), (8, .sl xs xs.length), (2, .rf 2 0)], [(2, [.i .i64 q, .i .i64 n])]⟩) (fun k => ∀ j (h : j < Ls.length), j < k → vecBad q n Ls[j] = 0) (by simp (disch := first | assumption | omega | (simp only [List.length_cons, List.length_nil, List.length_set, List.length_append, List.length_replicate, List.length_map, List.length_range, List.length_take, List.length_drop, nums_length, bools_length, vecs_length]; first | done | omega)) []) (fun j h1 h => by omega) ?_ ?_
  · intro k hk hp
    have hkL : k < Ls.length := by rw [← hx.1]; exact hk
    have hl := hx.2 k hk hkL
    have hV := rVector q n hl (hs _ (List.getElem_mem hkL))
    have hget : xs[k]? = some xs[k] := List.getElem?_eq_getElem hk
    have w1 : IntKind.i64.wrap ((k : Int) + 1) = (k : Int) + 1 := i64_in _ (by omega)
    have hkn : (k : Int).toNat = k := Int.toNat_natCast _
    have hat := vecsBad_at hkL hp
    have hc := vecBad_code q n Ls[k]
    have fe := errV_flat (vecBad q n Ls[k])
    have ne := errV_ne hc
    have fx := hl.flat
    have hnext : vecBad q n Ls[k] = 0 → ∀ j (h : j < Ls.length), j < k + 1 → vecBad q n Ls[j] = 0 := fun h0 j hj hlt => by
      by_cases e : j = k
      · subst e; exact h0
      · exact hp j hj (by omega)
    generalize xs[k] = x at *
    generalize vecBad q n Ls[k] = c at *
    have hlt : (k : Int) < (xs.length : Int) := by omega
    generalize hT : (k : Int) = T at *
    by_cases h0 : c = 0
    · have hn := hnext h0
      subst h0
      rw [show errV 0 = .nl from rfl] at hV
      simp (disch := first | assumption | omega | (simp only [List.length_cons, List.length_nil, List.length_set, List.length_append, List.length_replicate, List.length_map, List.length_range, List.length_take, List.length_drop, nums_length, bools_length, vecs_length]; first | done | omega)) [hkn, hget, hV, w1, hT]
      exact hn
    · rw [hat h0]
      simp (disch := first | assumption | omega | (simp only [List.length_cons, List.length_nil, List.length_set, List.length_append, List.length_replicate, List.length_map, List.length_range, List.length_take, List.length_drop, nums_length, bools_length, vecs_length]; first | done | omega)) [hkn, hget, hV, ne, h0]
  · intro hp
    rw [vecsBad_all fun j hj => hp j hj (by rw [hx.1]; exact hj)]
    simp (disch := first | assumption | omega | (simp only [List.length_cons, List.length_nil, List.length_set, List.length_append, List.length_replicate, List.length_map, List.length_range, List.length_take, List.length_drop, nums_length, bools_length, vecs_length]; first | done | omega)) [errV]

/-- Numbers as a vector. -/
theorem rMod (q n : Int) (hv : valid q n = 0) {x : AV} {L : List Int} (hx : IsL .i64 x L) (hn : (L.length : Int) = n) : FF tab 44 [(.ag [.i .i64 (q), .i .i64 (n)]), x] = some ⟨.tp [.os (nums .i64 (L.map (· % q))) L.length 1, .nl], []⟩ := by
  obtain ⟨hq, hd⟩ : Right q ∧ Deg n := by unfold valid at hv; split at hv <;> simp_all
  refine call_by (A := A44) rfl rfl ?_
  have fx := hx.flat
  have hV := rValid q n
  rw [hv, show errV 0 = .nl from rfl] at hV
  have hlen := lenV_isL hx
  have lo := hd.lo
  have hi := hd.hi
  have hN : n.toNat = L.length := by omega
  simp (disch := first | assumption | omega | (simp only [List.length_cons, List.length_nil, List.length_set, List.length_append, List.length_replicate, List.length_map, List.length_range, List.length_take, List.length_drop, nums_length, bools_length, vecs_length]; first | done | omega)) [A44, hV, hlen, hn, hN]
  have hz := fillTo_zero (fun j => ni L j % q) L.length
  refine w_heads L.length (fun k => ⟨[(25, .i .i64 k), (24, .i .i64 n), (7, .rs 22 0 L.length 1), (2, .rf 2 0), (1, x)], [(22, nums .i64 (fillTo (fun j => ni L j % q) L.length k)), (2, [.i .i64 q, .i .i64 n])]⟩) (by rw [hz]; simp (disch := first | assumption | omega | (simp only [List.length_cons, List.length_nil, List.length_set, List.length_append, List.length_replicate, List.length_map, List.length_range, List.length_take, List.length_drop, nums_length, bools_length, vecs_length]; first | done | omega)) [← hn]) ?_ ?_
  · intro k hk
    have w1 : IntKind.i64.wrap ((k : Int) + 1) = (k : Int) + 1 := i64_in _ (by omega)
    have hkn : (k : Int).toNat = k := Int.toNat_natCast _
    have hix := ixSV_isL hx (k' := .i64) (j := (k : Int)) (by omega) (by omega)
    rw [hkn] at hix
    have hget := nums_get (k := .i64) hk
    have hM := Mod (ni L k) hq
    have hl := fillTo_len (fun j => ni L j % q) L.length k
    have hset := fillTo_set (fun j => ni L j % q) hk
    have hlt : (k : Int) < (L.length : Int) := by omega
    generalize hT : (k : Int) = T at *
    generalize fillTo (fun j => ni L j % q) L.length k = M at *
    simp (disch := first | assumption | omega | (simp only [List.length_cons, List.length_nil, List.length_set, List.length_append, List.length_replicate, List.length_map, List.length_range, List.length_take, List.length_drop, nums_length, bools_length, vecs_length]; first | done | omega)) [hix, hget, hkn, hM, w1, hT, nums_set, hset]
  · rw [fillTo_all, mapTo_of (· % q)]
    simp (disch := first | assumption | omega | (simp only [List.length_cons, List.length_nil, List.length_set, List.length_append, List.length_replicate, List.length_map, List.length_range, List.length_take, List.length_drop, nums_length, bools_length, vecs_length]; first | done | omega)) [← hn]
theorem rMod_bad (q n : Int) {x : AV} {L : List Int} (hx : IsL .i64 x L) {c : Nat} (hc : c = if valid q n ≠ 0 then 101 else 102) (hb : valid q n ≠ 0 ∨ (L.length : Int) ≠ n) : FF tab 44 [(.ag [.i .i64 (q), .i .i64 (n)]), x] = some ⟨.tp [.z, errV c], []⟩ := by
  refine call_by (A := A44) rfl rfl ?_
  have fx := hx.flat
  have hV := rValid q n
  have hlen := lenV_isL hx
  by_cases hv : valid q n = 0
  · rw [hv, show errV 0 = .nl from rfl] at hV
    have hn : ¬ (L.length : Int) = n := by rcases hb with h | h; exact absurd hv h; exact h
    rw [hc, if_neg (by simp [hv])]
    simp (disch := first | assumption | omega | (simp only [List.length_cons, List.length_nil, List.length_set, List.length_append, List.length_replicate, List.length_map, List.length_range, List.length_take, List.length_drop, nums_length, bools_length, vecs_length]; first | done | omega)) [A44, hV, hlen, hn, errV]
  · have hv' : valid q n = 101 := by unfold valid at hv ⊢; split at hv <;> simp_all
    rw [hv', show errV 101 = .er 1 from rfl] at hV
    rw [hc, if_pos hv]
    simp (disch := first | assumption | omega | (simp only [List.length_cons, List.length_nil, List.length_set, List.length_append, List.length_replicate, List.length_map, List.length_range, List.length_take, List.length_drop, nums_length, bools_length, vecs_length]; first | done | omega)) [A44, hV, errV]

theorem vecBad_len {q n : Int} {L : List Int} (h : vecBad q n L = 0) : L.length ≤ 256 := by
  obtain ⟨_, hd, hn, _⟩ := vecBad_zero.1 h
  have := hd.hi
  omega

def zipTo (g : Int → Int → Int) (L M : List Int) : List Int := (List.range L.length).map fun j => g (ni L j) (ni M j)
theorem zipTo_len (g : Int → Int → Int) (L M : List Int) : (zipTo g L M).length = L.length := by simp [zipTo]
theorem zipTo_ni (g : Int → Int → Int) (L M : List Int) {j : Nat} (h : j < L.length) : ni (zipTo g L M) j = g (ni L j) (ni M j) := ni_map h

theorem rEach (q n : Int) {x y : AV} {L M : List Int} (hx : IsL .i64 x L) (hy : IsL .i64 y M) (hL : vecBad q n L = 0) (hM : vecBad q n M = 0) {f : Nat} {g : Int → Int → Int} (hf : ∀ a b, FF tab f [.i .i64 a, .i .i64 b, .i .i64 q] = some ⟨.i .i64 (g a b), []⟩) :
    FF tab 78 [(.ag [.i .i64 (q), .i .i64 (n)]), x, y, .fn f []] = some ⟨.tp [.os (nums .i64 (zipTo g L M)) L.length 1, .nl], []⟩ := by
  have hB := rBoth q n (.two hx hy) (by intro K hK; rcases List.mem_cons.1 hK with rfl | hK; exact Nat.lt_of_le_of_lt (vecBad_len hL) (by omega); rcases List.mem_cons.1 hK with rfl | hK; exact Nat.lt_of_le_of_lt (vecBad_len hM) (by omega); cases hK) (by simp)
  rw [vecsBad_two.2 ⟨hL, hM⟩, show errV 0 = .nl from rfl] at hB
  rw [show [x, y].length = 2 from rfl] at hB
  obtain ⟨hq, hd, hn, _⟩ := vecBad_zero.1 hL
  obtain ⟨_, _, hn2, _⟩ := vecBad_zero.1 hM
  refine call_by (A := A78) rfl rfl ?_
  have fx := hx.flat
  have fy := hy.flat
  have lo := hd.lo
  have hi := hd.hi
  have hN : n.toNat = L.length := by omega
  simp (disch := first | assumption | omega | (simp only [List.length_cons, List.length_nil, List.length_set, List.length_append, List.length_replicate, List.length_map, List.length_range, List.length_take, List.length_drop, nums_length, bools_length, vecs_length]; first | done | omega)) [A78, hB, hN]
  have hz := fillTo_zero (fun j => g (ni L j) (ni M j)) L.length
  refine w_heads L.length (fun k => ⟨[(26, .i .i64 k), (25, .i .i64 n), (11, .rs 23 0 L.length 1), (4, .rf 4 0), (3, .fn f []), (2, y), (1, x)], [(23, nums .i64 (fillTo (fun j => g (ni L j) (ni M j)) L.length k)), (4, [.i .i64 q, .i .i64 n])]⟩) (by rw [hz]; simp (disch := first | assumption | omega | (simp only [List.length_cons, List.length_nil, List.length_set, List.length_append, List.length_replicate, List.length_map, List.length_range, List.length_take, List.length_drop, nums_length, bools_length, vecs_length]; first | done | omega)) [← hn]) ?_ ?_
  · intro k hk
    have w1 : IntKind.i64.wrap ((k : Int) + 1) = (k : Int) + 1 := i64_in _ (by omega)
    have hkn : (k : Int).toNat = k := Int.toNat_natCast _
    have hix := ixSV_isL hx (k' := .i64) (j := (k : Int)) (by omega) (by omega)
    have hiy := ixSV_isL hy (k' := .i64) (j := (k : Int)) (by omega) (by omega)
    rw [hkn] at hix hiy
    have hgx := nums_get (k := .i64) hk
    have hgy := nums_get (k := .i64) (L := M) (j := k) (by omega)
    have hM' := hf (ni L k) (ni M k)
    have hl := fillTo_len (fun j => g (ni L j) (ni M j)) L.length k
    have hset := fillTo_set (fun j => g (ni L j) (ni M j)) hk
    have hlt : (k : Int) < (L.length : Int) := by omega
    generalize hT : (k : Int) = T at *
    generalize fillTo (fun j => g (ni L j) (ni M j)) L.length k = K at *
    generalize g (ni L k) (ni M k) = V at *
    simp (disch := first | assumption | omega | (simp only [List.length_cons, List.length_nil, List.length_set, List.length_append, List.length_replicate, List.length_map, List.length_range, List.length_take, List.length_drop, nums_length, bools_length, vecs_length]; first | done | omega)) [hix, hiy, hgx, hgy, hkn, ↓st_callT, callT_fn, hM', w1, hT, nums_set, hset]
  · rw [fillTo_all]
    simp (disch := first | assumption | omega | (simp only [List.length_cons, List.length_nil, List.length_set, List.length_append, List.length_replicate, List.length_map, List.length_range, List.length_take, List.length_drop, nums_length, bools_length, vecs_length]; first | done | omega)) [← hn]
    rfl
theorem rEach_bad (q n : Int) {x y : AV} {L M : List Int} (hx : IsL .i64 x L) (hy : IsL .i64 y M) (hsL : L.length < 9223372036854775807) (hsM : M.length < 9223372036854775807) (hb : vecsBad q n [L, M] ≠ 0) {f : Nat} :
    FF tab 78 [(.ag [.i .i64 (q), .i .i64 (n)]), x, y, .fn f []] = some ⟨.tp [.z, errV (vecsBad q n [L, M])], []⟩ := by
  have hB := rBoth q n (.two hx hy) (by intro K hK; rcases List.mem_cons.1 hK with rfl | hK; exact hsL; rcases List.mem_cons.1 hK with rfl | hK; exact hsM; cases hK) (by simp)
  rw [show [x, y].length = 2 from rfl] at hB
  have hc := vecsBad_code q n [L, M]
  generalize vecsBad q n [L, M] = c at *
  have fe := errV_flat c
  have ne := errV_ne hc
  refine call_by (A := A78) rfl rfl ?_
  have fx := hx.flat
  have fy := hy.flat
  simp (disch := first | assumption | omega | (simp only [List.length_cons, List.length_nil, List.length_set, List.length_append, List.length_replicate, List.length_map, List.length_range, List.length_take, List.length_drop, nums_length, bools_length, vecs_length]; first | done | omega)) [A78, hB, ne, hb]

/-- Add, number by number. -/
theorem rAdd (q n : Int) {x y : AV} {L M : List Int} (hx : IsL .i64 x L) (hy : IsL .i64 y M) (hL : vecBad q n L = 0) (hM : vecBad q n M = 0) : FF tab 41 [(.ag [.i .i64 (q), .i .i64 (n)]), x, y] = some ⟨.tp [slv .i64 (zipTo (fun a b => (a + b) % q) L M), .nl], []⟩ := by
  refine call_by (A := A41) rfl rfl ?_
  have fx := hx.flat
  have fy := hy.flat
  have h := rEach q n hx hy hL hM (f := 79) (g := fun a b => (a + b) % q) (fun a b => Add a b (vecBad_zero.1 hL).1)
  rw [← zipTo_len (fun a b => (a + b) % q) L M] at h
  simp (disch := first | assumption | omega | (simp only [List.length_cons, List.length_nil, List.length_set, List.length_append, List.length_replicate, List.length_map, List.length_range, List.length_take, List.length_drop, nums_length, bools_length, vecs_length]; first | done | omega)) [A41, h]
theorem rAdd_bad (q n : Int) {x y : AV} {L M : List Int} (hx : IsL .i64 x L) (hy : IsL .i64 y M) (hsL : L.length < 9223372036854775807) (hsM : M.length < 9223372036854775807) (hb : vecsBad q n [L, M] ≠ 0) : FF tab 41 [(.ag [.i .i64 (q), .i .i64 (n)]), x, y] = some ⟨.tp [.z, errV (vecsBad q n [L, M])], []⟩ := by
  refine call_by (A := A41) rfl rfl ?_
  have fx := hx.flat
  have fy := hy.flat
  have fe := errV_flat (vecsBad q n [L, M])
  have h := rEach_bad q n hx hy hsL hsM hb (f := 79)
  simp (disch := first | assumption | omega | (simp only [List.length_cons, List.length_nil, List.length_set, List.length_append, List.length_replicate, List.length_map, List.length_range, List.length_take, List.length_drop, nums_length, bools_length, vecs_length]; first | done | omega)) [A41, h]

/-- Sub, number by number. -/
theorem rSub (q n : Int) {x y : AV} {L M : List Int} (hx : IsL .i64 x L) (hy : IsL .i64 y M) (hL : vecBad q n L = 0) (hM : vecBad q n M = 0) : FF tab 48 [(.ag [.i .i64 (q), .i .i64 (n)]), x, y] = some ⟨.tp [slv .i64 (zipTo (fun a b => (a - b) % q) L M), .nl], []⟩ := by
  refine call_by (A := A48) rfl rfl ?_
  have fx := hx.flat
  have fy := hy.flat
  have h := rEach q n hx hy hL hM (f := 82) (g := fun a b => (a - b) % q) (fun a b => Sub a b (vecBad_zero.1 hL).1)
  rw [← zipTo_len (fun a b => (a - b) % q) L M] at h
  simp (disch := first | assumption | omega | (simp only [List.length_cons, List.length_nil, List.length_set, List.length_append, List.length_replicate, List.length_map, List.length_range, List.length_take, List.length_drop, nums_length, bools_length, vecs_length]; first | done | omega)) [A48, h]
theorem rSub_bad (q n : Int) {x y : AV} {L M : List Int} (hx : IsL .i64 x L) (hy : IsL .i64 y M) (hsL : L.length < 9223372036854775807) (hsM : M.length < 9223372036854775807) (hb : vecsBad q n [L, M] ≠ 0) : FF tab 48 [(.ag [.i .i64 (q), .i .i64 (n)]), x, y] = some ⟨.tp [.z, errV (vecsBad q n [L, M])], []⟩ := by
  refine call_by (A := A48) rfl rfl ?_
  have fx := hx.flat
  have fy := hy.flat
  have fe := errV_flat (vecsBad q n [L, M])
  have h := rEach_bad q n hx hy hsL hsM hb (f := 82)
  simp (disch := first | assumption | omega | (simp only [List.length_cons, List.length_nil, List.length_set, List.length_append, List.length_replicate, List.length_map, List.length_range, List.length_take, List.length_drop, nums_length, bools_length, vecs_length]; first | done | omega)) [A48, h]

/-- Mul, number by number. -/
theorem rMul (q n : Int) {x y : AV} {L M : List Int} (hx : IsL .i64 x L) (hy : IsL .i64 y M) (hL : vecBad q n L = 0) (hM : vecBad q n M = 0) : FF tab 49 [(.ag [.i .i64 (q), .i .i64 (n)]), x, y] = some ⟨.tp [slv .i64 (zipTo (fun a b => (a * b) % q) L M), .nl], []⟩ := by
  refine call_by (A := A49) rfl rfl ?_
  have fx := hx.flat
  have fy := hy.flat
  have h := rEach q n hx hy hL hM (f := 81) (g := fun a b => (a * b) % q) (fun a b => Mul a b (vecBad_zero.1 hL).1)
  rw [← zipTo_len (fun a b => (a * b) % q) L M] at h
  simp (disch := first | assumption | omega | (simp only [List.length_cons, List.length_nil, List.length_set, List.length_append, List.length_replicate, List.length_map, List.length_range, List.length_take, List.length_drop, nums_length, bools_length, vecs_length]; first | done | omega)) [A49, h]
theorem rMul_bad (q n : Int) {x y : AV} {L M : List Int} (hx : IsL .i64 x L) (hy : IsL .i64 y M) (hsL : L.length < 9223372036854775807) (hsM : M.length < 9223372036854775807) (hb : vecsBad q n [L, M] ≠ 0) : FF tab 49 [(.ag [.i .i64 (q), .i .i64 (n)]), x, y] = some ⟨.tp [.z, errV (vecsBad q n [L, M])], []⟩ := by
  refine call_by (A := A49) rfl rfl ?_
  have fx := hx.flat
  have fy := hy.flat
  have fe := errV_flat (vecsBad q n [L, M])
  have h := rEach_bad q n hx hy hsL hsM hb (f := 81)
  simp (disch := first | assumption | omega | (simp only [List.length_cons, List.length_nil, List.length_set, List.length_append, List.length_replicate, List.length_map, List.length_range, List.length_take, List.length_drop, nums_length, bools_length, vecs_length]; first | done | omega)) [A49, h]

theorem rScale (q n : Int) {x : AV} {L : List Int} (hx : IsL .i64 x L) (hL : vecBad q n L = 0) (k : Int) : FF tab 46 [(.ag [.i .i64 (q), .i .i64 (n)]), x, .i .i64 k] = some ⟨.tp [.os (nums .i64 (L.map fun a => a * (k % q) % q)) L.length 1, .nl], []⟩ := by
  have hB := rBoth q n (.one hx) (by intro K hK; rcases List.mem_cons.1 hK with rfl | hK; exact Nat.lt_of_le_of_lt (vecBad_len hL) (by omega); cases hK) (by simp)
  rw [vecsBad_one, hL, show errV 0 = .nl from rfl, show [x].length = 1 from rfl] at hB
  obtain ⟨hq, hd, hn, _⟩ := vecBad_zero.1 hL
  refine call_by (A := A46) rfl rfl ?_
  have fx := hx.flat
  have lo := hd.lo
  have hi := hd.hi
  have hN : n.toNat = L.length := by omega
  have hk := Mod k hq
  generalize k % q = K at *
  simp (disch := first | assumption | omega | (simp only [List.length_cons, List.length_nil, List.length_set, List.length_append, List.length_replicate, List.length_map, List.length_range, List.length_take, List.length_drop, nums_length, bools_length, vecs_length]; first | done | omega)) [A46, hB, hN, hk]
  have hz := fillTo_zero (fun j => ni L j * K % q) L.length
  refine w_heads L.length (fun k => ⟨[(28, .i .i64 k), (27, .i .i64 n), (10, .rs 25 0 L.length 1), (9, .i .i64 K), (3, .rf 3 0), (1, x)], [(25, nums .i64 (fillTo (fun j => ni L j * K % q) L.length k)), (3, [.i .i64 q, .i .i64 n])]⟩) (by rw [hz]; simp (disch := first | assumption | omega | (simp only [List.length_cons, List.length_nil, List.length_set, List.length_append, List.length_replicate, List.length_map, List.length_range, List.length_take, List.length_drop, nums_length, bools_length, vecs_length]; first | done | omega)) [← hn]) ?_ ?_
  · intro k hk
    have w1 : IntKind.i64.wrap ((k : Int) + 1) = (k : Int) + 1 := i64_in _ (by omega)
    have hkn : (k : Int).toNat = k := Int.toNat_natCast _
    have hix := ixSV_isL hx (k' := .i64) (j := (k : Int)) (by omega) (by omega)
    rw [hkn] at hix
    have hgx := nums_get (k := .i64) hk
    have hM' := Mul (ni L k) K hq
    have hl := fillTo_len (fun j => ni L j * K % q) L.length k
    have hset := fillTo_set (fun j => ni L j * K % q) hk
    have hlt : (k : Int) < (L.length : Int) := by omega
    generalize hT : (k : Int) = T at *
    generalize fillTo (fun j => ni L j * K % q) L.length k = F at *
    generalize ni L k * K % q = V at *
    simp (disch := first | assumption | omega | (simp only [List.length_cons, List.length_nil, List.length_set, List.length_append, List.length_replicate, List.length_map, List.length_range, List.length_take, List.length_drop, nums_length, bools_length, vecs_length]; first | done | omega)) [hix, hgx, hkn, hM', w1, hT, nums_set, hset]
  · rw [fillTo_all, mapTo_of (fun a => a * K % q)]
    simp (disch := first | assumption | omega | (simp only [List.length_cons, List.length_nil, List.length_set, List.length_append, List.length_replicate, List.length_map, List.length_range, List.length_take, List.length_drop, nums_length, bools_length, vecs_length]; first | done | omega)) [← hn]
theorem rScale_bad (q n : Int) {x : AV} {L : List Int} (hx : IsL .i64 x L) (hsL : L.length < 9223372036854775807) (hb : vecBad q n L ≠ 0) (k : Int) : FF tab 46 [(.ag [.i .i64 (q), .i .i64 (n)]), x, .i .i64 k] = some ⟨.tp [.z, errV (vecBad q n L)], []⟩ := by
  have hB := rBoth q n (.one hx) (by intro K hK; rcases List.mem_cons.1 hK with rfl | hK; exact hsL; cases hK) (by simp)
  rw [vecsBad_one, show [x].length = 1 from rfl] at hB
  have hc := vecBad_code q n L
  generalize vecBad q n L = c at *
  have fe := errV_flat c
  have ne := errV_ne hc
  refine call_by (A := A46) rfl rfl ?_
  have fx := hx.flat
  simp (disch := first | assumption | omega | (simp only [List.length_cons, List.length_nil, List.length_set, List.length_append, List.length_replicate, List.length_map, List.length_range, List.length_take, List.length_drop, nums_length, bools_length, vecs_length]; first | done | omega)) [A46, hB, ne, hb]

/-- Nearest to 0. -/
def cen (q a : Int) : Int := if (q - 1) / 2 < a % q then a % q - q else a % q
theorem Cen (a : Int) {p : Int} (h : Right p) : FF tab 77 [.i .i64 a, .i .i64 p] = some ⟨.i .i64 (cen p a), []⟩ := Center a h
theorem cen_abs (a : Int) {q : Int} (h : Right q) : -8380417 < cen q a ∧ cen q a < 8380417 := by
  have lo := h.lo
  have hi := h.hi
  have a0 := Int.emod_nonneg a (show q ≠ 0 by omega)
  have a1 := Int.emod_lt_of_pos a (show 0 < q by omega)
  unfold cen
  split <;> omega
def absI (a : Int) : Int := max a (-a)
/-- The greatest of the first. -/
def mostTo (g : Nat → Int) : Nat → Int
  | 0 => 0
  | k + 1 => max (mostTo g k) (absI (g k))
theorem mostTo_nonneg (g : Nat → Int) : ∀ k, 0 ≤ mostTo g k
  | 0 => Int.le_refl _
  | k + 1 => by have := mostTo_nonneg g k; simp only [mostTo]; omega
def normL (q : Int) (L : List Int) : Int := mostTo (fun j => cen q (ni L j)) L.length

theorem mostTo_lt {g : Nat → Int} {B : Int} (hB : 0 < B) (h : ∀ j, -B < g j ∧ g j < B) : ∀ k, mostTo g k < B
  | 0 => hB
  | k + 1 => by have := mostTo_lt hB h k; have := h k; simp only [mostTo, absI]; omega

theorem mx3 (a b c : Int) : maxV (.i .i64 a) [.i .i64 b, .i .i64 c] = some (.i .i64 (max a (max b c))) := by
  simp only [maxV, decide_true, cond_true]
  congr 2
  split <;> split <;> omega

theorem rNorm (q n : Int) {x : AV} {L : List Int} (hx : IsL .i64 x L) (hL : vecBad q n L = 0) : FF tab 47 [(.ag [.i .i64 (q), .i .i64 (n)]), x] = some ⟨.tp [.i .i64 (normL q L), .nl], []⟩ := by
  have hB := rBoth q n (.one hx) (by intro K hK; rcases List.mem_cons.1 hK with rfl | hK; exact Nat.lt_of_le_of_lt (vecBad_len hL) (by omega); cases hK) (by simp)
  rw [vecsBad_one, hL, show errV 0 = .nl from rfl, show [x].length = 1 from rfl] at hB
  obtain ⟨hq, hd, hn, _⟩ := vecBad_zero.1 hL
  refine call_by (A := A47) rfl rfl ?_
  have fx := hx.flat
  have hi := hd.hi
  have hlen := lenV_isL hx
  simp (disch := first | assumption | omega | (simp only [List.length_cons, List.length_nil, List.length_set, List.length_append, List.length_replicate, List.length_map, List.length_range, List.length_take, List.length_drop, nums_length, bools_length, vecs_length]; first | done | omega)) [A47, hB, hlen]
  refine w_heads L.length (fun k => ⟨[(20, .i .i64 k), (19, .i .i64 L.length), (18, x), (7, .i .i64 (mostTo (fun j => cen q (ni L j)) k)), (2, .rf 2 0)], [(2, [.i .i64 q, .i .i64 n])]⟩) (by simp (disch := first | assumption | omega | (simp only [List.length_cons, List.length_nil, List.length_set, List.length_append, List.length_replicate, List.length_map, List.length_range, List.length_take, List.length_drop, nums_length, bools_length, vecs_length]; first | done | omega)) [mostTo]) ?_ ?_
  · intro k hk
    have w1 : IntKind.i64.wrap ((k : Int) + 1) = (k : Int) + 1 := i64_in _ (by omega)
    have hkn : (k : Int).toNat = k := Int.toNat_natCast _
    have hix := ixSV_isL hx (k' := .i64) (j := (k : Int)) (by omega) (by omega)
    rw [hkn] at hix
    have hgx := nums_get (k := .i64) hk
    have hC := Cen (ni L k) hq
    have hb := cen_abs (ni L k) hq
    have w2 : IntKind.i64.wrap (- cen q (ni L k)) = - cen q (ni L k) := i64_in _ (by omega)
    have er : mostTo (fun j => cen q (ni L j)) (k + 1) = max (mostTo (fun j => cen q (ni L j)) k) (max (cen q (ni L k)) (- cen q (ni L k))) := rfl
    have hlt : (k : Int) < (L.length : Int) := by omega
    generalize hT : (k : Int) = T at *
    generalize cen q (ni L k) = c at *
    simp (disch := first | assumption | omega | (simp only [List.length_cons, List.length_nil, List.length_set, List.length_append, List.length_replicate, List.length_map, List.length_range, List.length_take, List.length_drop, nums_length, bools_length, vecs_length]; first | done | omega)) [hix, hgx, hkn, hC, w1, w2, hT, mx3, er]
  · simp (disch := first | assumption | omega | (simp only [List.length_cons, List.length_nil, List.length_set, List.length_append, List.length_replicate, List.length_map, List.length_range, List.length_take, List.length_drop, nums_length, bools_length, vecs_length]; first | done | omega)) [normL]
theorem rNorm_bad (q n : Int) {x : AV} {L : List Int} (hx : IsL .i64 x L) (hsL : L.length < 9223372036854775807) (hb : vecBad q n L ≠ 0) : FF tab 47 [(.ag [.i .i64 (q), .i .i64 (n)]), x] = some ⟨.tp [.i .i64 0, errV (vecBad q n L)], []⟩ := by
  have hB := rBoth q n (.one hx) (by intro K hK; rcases List.mem_cons.1 hK with rfl | hK; exact hsL; cases hK) (by simp)
  rw [vecsBad_one, show [x].length = 1 from rfl] at hB
  have hc := vecBad_code q n L
  generalize vecBad q n L = c at *
  have fe := errV_flat c
  have ne := errV_ne hc
  refine call_by (A := A47) rfl rfl ?_
  have fx := hx.flat
  simp (disch := first | assumption | omega | (simp only [List.length_cons, List.length_nil, List.length_set, List.length_append, List.length_replicate, List.length_map, List.length_range, List.length_take, List.length_drop, nums_length, bools_length, vecs_length]; first | done | omega)) [A47, hB, ne, hb]
end Zab.YtcebddjidpbhgaaDoorB
