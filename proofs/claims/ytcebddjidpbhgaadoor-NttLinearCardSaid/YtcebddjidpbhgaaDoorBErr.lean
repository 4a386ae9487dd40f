/- Errors as numbers; rings, vectors: what is amiss. -/
import Derived.Test.YtcebddjidpbhgaaDoorBZq
import Derived.Test.YtcebddjidpbhgaaDoorZabFor
namespace Zab.YtcebddjidpbhgaaDoorB
open Go
open Go.IntWalk (i64_in)
set_option maxRecDepth 100000
set_option linter.unusedSimpArgs false
set_option linter.unusedVariables false
attribute [-simp] getElem?_pos
attribute [local simp ↓] W_loop W_seq W_skip W_ret W_exit W_reg W_cond W_block W_pre cleanO_some freezes_nil freezes_cons frzO_some andThen_normal andThen_ret andThen_exit unblock_normal unblock_ret unblock_exit Ends_normal Ends_ret steps_nil steps_cons step_some st_move st_pick st_bin st_un st_conv st_addr sv_ixA sv_ixS sv_fld sv_ixV st_ixStr st_ext sv_build sv_bsl sv_mkS st_mkfn sv_lenS sv_len st_mn st_mx st_nilChk st_tas st_slc sv_loadg sv_load st_call sv_store sv_box sv_alloc sv_mkR sv_bslR sv_nilR sv_app sv_callK stepsAt_some onSome_some onB_true onB_false onG_tt onG_tf onG_ft onG_ff onG_un optPut_some optMem_some
attribute [local simp] evalO evalL constAV get_cons get_nil put_cons put_nil look_cons look_nil putD_some clean_mk freeze_mk mapS del_cons del_nil keepS_cons keepS_nil keepL_cons keepL_nil memb_cons memb_nil unV pureV convV_i addrV toArgs anyRs hasSl2L fromRetL finR resL resV toRets one Nat.beq Nat.ble shiftV_shr shiftV_shl IntKind.bits fillV List.getElem?_cons_zero List.getElem?_cons_succ List.length_cons List.length_nil List.set_cons_zero List.set_cons_succ setR2 setR3 zrep_eqs binV_i binI_shl binI_shr binI_eqs binV_eqs binV_slcE binV_slcN lendsC_some lends_nil lends_eqs fl_lends lends_rf lendsR_some lends_rs lendsS_some seesAny_no callK1_fn callK2_some callK3_some recvPut_some afterK_some afterK_none putAll_nil putAll_cons hasSlLL_nil hasSlLL_cons recv_os recv_op recv_no recvV_some recv_tp recvT_os recvT_op srcV_rs srcR_some List.append_nil intV_quo intV_rem hasSlL mapR_eqs kill1_eqs frz1_eqs enterS_eqs enterL_eqs isRs_eqs toArg_eqs from1_eqs from_eqs toRet_eqs lentOf_eqs countR_eqs hasSl1_eqs hasSl2_eqs hasSl_eqs cellsOf_ag1 cellsOf_ag2 cellsOf_ag3 cellsOf_ag4 cellsOf_ag5 partV_2 partV_3 partV_4 partV_5 toRet_own ownR_of toArg_rs seenR_all seenR_part appS_rs appR_of srcV_sl srcV_z nilS_z bslS_some dec_t dec_f buildV_some bslV_some boxS_some root_mk ixSV_sl ixSV_rs ixAV_rf ixAV_el ixVV_ag fldV_ag lenV_sl lenV_rs lenV_z lenSV_s loadV_rf loadV_el loadR_some partV_none partV_all partV_some storeV_rf setR_one setR_all cellsOf_ag cellsOf_i cellsOf_b cellsOf_sl cellsOf_z cellsOf_er cellsOf_nl cellsOf_np cellsOf_s mkSV_of mkRS_of fl_map fl_kill fl_frz fl_enterS fl_enterL fl_lentOf fl_toArg fl_isRs fl_toRet fl_from1 fl_from fl_cells fl_countR nums_length nums_get nums_set nums_append nums_snoc nums_drop nums_take nums_zrep nums_hasSl bools_length bools_get bools_set bools_snoc bools_zrep bools_hasSl vecs_length vecs_get vecs_snoc slcV_sl idxO idx Nat.zero_add Nat.mul_one Nat.add_zero stepsAt_some onSome_some onB_true onB_false onG_tt onG_tf onG_ft onG_ff onG_un optPut_some optMem_some

/-- The error with this number. -/
def errV : Nat → AV
  | 101 => .er 1
  | 102 => .er 0
  | 103 => .er 2
  | 104 => .er 3
  | 105 => .er 4
  | 106 => .er 5
  | 107 => .er 6
  | 108 => .er 7
  | _ => .nl
theorem errV_flat (c : Nat) : (errV c).flat = true := by unfold errV; split <;> rfl
/-- A number of an error, or none. -/
def Code (c : Nat) : Prop := c = 0 ∨ c = 101 ∨ c = 102 ∨ c = 103 ∨ c = 104 ∨ c = 105 ∨ c = 106 ∨ c = 107 ∨ c = 108
theorem errV_eq {c : Nat} (h : Code c) : binV .ifaceC .eql (errV c) .nl = some (.b (decide (c = 0))) := by
  rcases h with rfl | rfl | rfl | rfl | rfl | rfl | rfl | rfl | rfl <;> rfl
theorem errV_ne {c : Nat} (h : Code c) : binV .ifaceC .neq (errV c) .nl = some (.b (!decide (c = 0))) := by
  rcases h with rfl | rfl | rfl | rfl | rfl | rfl | rfl | rfl | rfl <;> rfl

/-- Degrees that may be. -/
def Deg (n : Int) : Prop := n = 4 ∨ n = 8 ∨ n = 16 ∨ n = 32 ∨ n = 64 ∨ n = 128 ∨ n = 256
theorem Deg.lo {n : Int} (h : Deg n) : 4 ≤ n := by unfold Deg at h; omega
theorem Deg.hi {n : Int} (h : Deg n) : n ≤ 256 := by unfold Deg at h; omega
instance (n : Int) : Decidable (Deg n) := by unfold Deg; infer_instance
instance (p : Int) : Decidable (Right p) := by unfold Right; infer_instance

theorem IsNot {p : Int} (h : ¬ Right p) : FF tab 83 [.i .i64 p] = some ⟨.b false, []⟩ := by
  refine call_by (A := A83) rfl rfl ?_
  unfold Right at h
  have h1 : ¬ p = 17 := by omega
  have h2 : ¬ p = 97 := by omega
  have h3 : ¬ p = 257 := by omega
  have h4 : ¬ p = 3329 := by omega
  have h5 : ¬ p = 7681 := by omega
  have h6 : ¬ p = 12289 := by omega
  have h7 : ¬ p = 8380417 := by omega
  simp [A83, h1, h2, h3, h4, h5, h6, h7, ↓W_loop, ↓W_seq, ↓W_skip, ↓W_ret, ↓W_exit, ↓W_reg, ↓W_cond, ↓W_block, ↓W_pre, ↓cleanO_some, ↓freezes_nil, ↓freezes_cons, ↓frzO_some, ↓andThen_normal, ↓andThen_ret, ↓andThen_exit, ↓unblock_normal, ↓unblock_ret, ↓unblock_exit, ↓Ends_normal, ↓Ends_ret, ↓steps_nil, ↓steps_cons, ↓step_some, ↓st_move, ↓st_pick, ↓st_bin, ↓st_un, ↓st_conv, ↓st_addr, ↓st_ixA, ↓st_ixS, ↓st_fld, ↓st_ixV, ↓st_ixStr, ↓st_ext, ↓st_build, ↓st_bsl, ↓st_mkS, ↓st_mkfn, ↓st_len, ↓st_mn, ↓st_mx, ↓st_nilChk, ↓st_tas, ↓st_slc, ↓st_load, ↓st_call, ↓st_store, ↓st_box, ↓st_alloc, ↓st_mkR, ↓st_bslR, ↓st_nilR, ↓st_app, ↓st_callK, ↓stepsAt_some, ↓onSome_some, ↓onB_true, ↓onB_false, ↓onG_tt, ↓onG_tf, ↓onG_ft, ↓onG_ff, ↓onG_un, ↓optPut_some, ↓optMem_some, enterS, enterL, evalO, evalL, constAV, get_cons, get_nil, put_cons, put_nil, look_cons, look_nil, putD_some, clean_mk, freeze_mk, mapS, AV.mapR, frz1, del_cons, del_nil, kill1, keepS_cons, keepS_nil, keepL_cons, keepL_nil, memb_cons, memb_nil, binV, intV, unV, eqlV, pureV, readV, writeV, stepK, convV_i, addrV, toArgs, toArg, anyRs, isRs, hasSl, hasSl2, hasSl1, hasSl2L, fromRet, fromRetL, fromRet1, finR, resL, resV, toRets, toRet, lentOf, one, Nat.beq, Nat.blt, Nat.ble, shiftV_shr, shiftV_shl, IntKind.bits, fillV, partV, cellsOf, AV.flat, zrep, List.getElem?_cons_zero, List.getElem?_cons_succ, List.length_cons, List.length_nil, List.set_cons_zero, List.set_cons_succ, stepsAt_some, onSome_some, onB_true, onB_false, onG_tt, onG_tf, onG_ft, onG_ff, onG_un, optPut_some, optMem_some]

def valid (q n : Int) : Nat := if Right q ∧ Deg n then 0 else 101
theorem valid_code (q n : Int) : Code (valid q n) := by unfold valid Code; split <;> simp

set_option maxHeartbeats 2000000 in
theorem rValid (q n : Int) : FF tab 50 [(.ag [.i .i64 (q), .i .i64 (n)])] = some ⟨errV (valid q n), []⟩ := by
  refine call_by (A := A50) rfl rfl ?_
  by_cases hq : Right q
  · have hI := Is hq
    by_cases hn : Deg n
    · rw [show valid q n = 0 from if_pos ⟨hq, hn⟩]
      rcases hn with rfl | rfl | rfl | rfl | rfl | rfl | rfl <;> simp (disch := first | assumption | omega | (simp only [List.length_cons, List.length_nil, List.length_set, List.length_append, List.length_replicate, List.length_map, List.length_range, List.length_take, List.length_drop, nums_length, bools_length, vecs_length]; first | done | omega)) [A50, hI, errV]
    · rw [show valid q n = 101 from if_neg (fun h => hn h.2)]
      unfold Deg at hn
      have h1 : ¬ n = 4 := by omega
      have h2 : ¬ n = 8 := by omega
      have h3 : ¬ n = 16 := by omega
      have h4 : ¬ n = 32 := by omega
      have h5 : ¬ n = 64 := by omega
      have h6 : ¬ n = 128 := by omega
      have h7 : ¬ n = 256 := by omega
      simp (disch := first | assumption | omega | (simp only [List.length_cons, List.length_nil, List.length_set, List.length_append, List.length_replicate, List.length_map, List.length_range, List.length_take, List.length_drop, nums_length, bools_length, vecs_length]; first | done | omega)) [A50, h1, h2, h3, h4, h5, h6, h7, errV]
  · have hI := IsNot hq
    rw [show valid q n = 101 from if_neg (fun h => hq h.1)]
    by_cases hn : Deg n
    · rcases hn with rfl | rfl | rfl | rfl | rfl | rfl | rfl <;> simp (disch := first | assumption | omega | (simp only [List.length_cons, List.length_nil, List.length_set, List.length_append, List.length_replicate, List.length_map, List.length_range, List.length_take, List.length_drop, nums_length, bools_length, vecs_length]; first | done | omega)) [A50, hI, errV]
    · unfold Deg at hn
      have h1 : ¬ n = 4 := by omega
      have h2 : ¬ n = 8 := by omega
      have h3 : ¬ n = 16 := by omega
      have h4 : ¬ n = 32 := by omega
      have h5 : ¬ n = 64 := by omega
      have h6 : ¬ n = 128 := by omega
      have h7 : ¬ n = 256 := by omega
      simp (disch := first | assumption | omega | (simp only [List.length_cons, List.length_nil, List.length_set, List.length_append, List.length_replicate, List.length_map, List.length_range, List.length_take, List.length_drop, nums_length, bools_length, vecs_length]; first | done | omega)) [A50, h1, h2, h3, h4, h5, h6, h7, errV]

/-- All are numbers modulo q. -/
def Mods (q : Int) (L : List Int) : Prop := ∀ x ∈ L, 0 ≤ x ∧ x < q
instance (q : Int) (L : List Int) : Decidable (Mods q L) := by unfold Mods; infer_instance
def vecBad (q n : Int) (L : List Int) : Nat := if valid q n ≠ 0 then 101 else if (L.length : Int) ≠ n then 102 else if Mods q L then 0 else 101
theorem vecBad_code (q n : Int) (L : List Int) : Code (vecBad q n L) := by unfold vecBad Code; split <;> (try split) <;> (try split) <;> simp
theorem vecBad_zero {q n : Int} {L : List Int} : vecBad q n L = 0 ↔ Right q ∧ Deg n ∧ (L.length : Int) = n ∧ Mods q L := by
  unfold vecBad valid
  by_cases h1 : Right q ∧ Deg n
  · by_cases h2 : (L.length : Int) = n
    · by_cases h3 : Mods q L
      · simp [h1, h2, h3]
      · simp [h1, h2, h3]
    · simp [h1, h2]
  · simp [h1]
    intro a b
    exact absurd ⟨a, b⟩ h1

theorem mods_step {q : Int} {L : List Int} (h : ∀ j, j < L.length → 0 ≤ ni L j ∧ ni L j < q) : Mods q L := by
  intro x hx
  obtain ⟨j, hj, rfl⟩ := List.mem_iff_getElem.1 hx
  have := h j hj
  rwa [ni_get hj] at this
theorem mods_at {q : Int} {L : List Int} (h : Mods q L) {j : Nat} (hj : j < L.length) : 0 ≤ ni L j ∧ ni L j < q := by
  rw [ni_get hj]
  exact h _ (List.getElem_mem hj)

set_option maxHeartbeats 1000000 in
theorem rVector (q n : Int) {x : AV} {L : List Int} (hx : IsL .i64 x L) (hL : L.length < 9223372036854775807) : FF tab 45 [(.ag [.i .i64 (q), .i .i64 (n)]), x] = some ⟨errV (vecBad q n L), []⟩ := by
  refine call_by (A := A45) rfl rfl ?_
  have fx := hx.flat
  have hV := rValid q n
  have hlen := lenV_isL hx
  by_cases hv : valid q n = 0
  · rw [hv] at hV
    rw [show errV 0 = .nl from rfl] at hV
    by_cases hn : (L.length : Int) = n
    · have hb : vecBad q n L = if Mods q L then 0 else 101 := by simp [vecBad, hv, hn]
      simp (disch := first | assumption | omega | (simp only [List.length_cons, List.length_nil, List.length_set, List.length_append, List.length_replicate, List.length_map, List.length_range, List.length_take, List.length_drop, nums_length, bools_length, vecs_length]; first | done | omega)) [A45, hV, hlen, hn]
      refine w_headsP L.length (fun k => ⟨[(21, .i .i64 k), (20, .i .i64 n), (19, x), (2, .rf 2 0)], [(2, [.i .i64 q, .i .i64 n])]⟩) (fun k => ∀ j, j < k → 0 ≤ ni L j ∧ ni L j < q) (by simp (disch := first | assumption | omega | (simp only [List.length_cons, List.length_nil, List.length_set, List.length_append, List.length_replicate, List.length_map, List.length_range, List.length_take, List.length_drop, nums_length, bools_length, vecs_length]; first | done | omega)) []) (fun j h => by omega) ?_ ?_
      · intro k hk hp
        have w1 : IntKind.i64.wrap ((k : Int) + 1) = (k : Int) + 1 := i64_in _ (by omega)
        have hkn : (k : Int).toNat = k := Int.toNat_natCast _
        have hix := ixSV_isL hx (k' := .i64) (j := (k : Int)) (by omega) (by omega)
        rw [hkn] at hix
        have hget := nums_get (k := .i64) hk
        have hlt : (k : Int) < n := by omega
        generalize hT : (k : Int) = T at *
        by_cases h1 : ni L k < 0
        · have hm : ¬ Mods q L := fun h => by have := mods_at h hk; omega
          rw [hb, if_neg hm]
          simp (disch := first | assumption | omega | (simp only [List.length_cons, List.length_nil, List.length_set, List.length_append, List.length_replicate, List.length_map, List.length_range, List.length_take, List.length_drop, nums_length, bools_length, vecs_length]; first | done | omega)) [hix, hget, errV]
        · by_cases h2 : q ≤ ni L k
          · have hm : ¬ Mods q L := fun h => by have := mods_at h hk; omega
            rw [hb, if_neg hm]
            simp (disch := first | assumption | omega | (simp only [List.length_cons, List.length_nil, List.length_set, List.length_append, List.length_replicate, List.length_map, List.length_range, List.length_take, List.length_drop, nums_length, bools_length, vecs_length]; first | done | omega)) [hix, hget, errV]
          · simp (disch := first | assumption | omega | (simp only [List.length_cons, List.length_nil, List.length_set, List.length_append, List.length_replicate, List.length_map, List.length_range, List.length_take, List.length_drop, nums_length, bools_length, vecs_length]; first | done | omega)) [hix, hget, w1, hT]
            intro j hj
            by_cases e : j = k
            · subst e; omega
            · exact hp j (by omega)
      · intro hp
        rw [hb, if_pos (mods_step hp), ← hn]
        simp (disch := first | assumption | omega | (simp only [List.length_cons, List.length_nil, List.length_set, List.length_append, List.length_replicate, List.length_map, List.length_range, List.length_take, List.length_drop, nums_length, bools_length, vecs_length]; first | done | omega)) [errV]
    · have hb : vecBad q n L = 102 := by simp [vecBad, hv, hn]
      rw [hb]
      simp (disch := first | assumption | omega | (simp only [List.length_cons, List.length_nil, List.length_set, List.length_append, List.length_replicate, List.length_map, List.length_range, List.length_take, List.length_drop, nums_length, bools_length, vecs_length]; first | done | omega)) [A45, hV, hlen, hn, errV]
  · have hb : vecBad q n L = 101 := by simp [vecBad, hv]
    have hv' : valid q n = 101 := by unfold valid at hv ⊢; split at hv <;> simp_all
    rw [hv'] at hV
    rw [hb]
    rw [show errV 101 = .er 1 from rfl] at hV ⊢
    simp (disch := first | assumption | omega | (simp only [List.length_cons, List.length_nil, List.length_set, List.length_append, List.length_replicate, List.length_map, List.length_range, List.length_take, List.length_drop, nums_length, bools_length, vecs_length]; first | done | omega)) [A45, hV]
end Zab.YtcebddjidpbhgaaDoorB
