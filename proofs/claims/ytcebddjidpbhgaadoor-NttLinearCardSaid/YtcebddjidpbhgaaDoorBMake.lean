/- Small rings, and vectors out of numbers. -/
import Derived.Test.YtcebddjidpbhgaaDoorBRing
import Derived.KernelRfl
namespace Zab.YtcebddjidpbhgaaDoorB
open Go
open Go.IntWalk (i64_in)
set_option maxRecDepth 100000
set_option linter.unusedSimpArgs false
set_option linter.unusedVariables false
attribute [-simp] getElem?_pos
attribute [local simp ↓] W_loop W_seq W_skip W_ret W_exit W_reg W_cond W_block W_pre cleanO_some freezes_nil freezes_cons frzO_some andThen_normal andThen_ret andThen_exit unblock_normal unblock_ret unblock_exit Ends_normal Ends_ret steps_nil steps_cons step_some st_move st_pick st_bin st_un st_conv st_addr sv_ixA sv_ixS sv_fld sv_ixV st_ixStr st_ext sv_build sv_bsl sv_mkS st_mkfn sv_lenS sv_len st_mn st_mx st_nilChk st_tas st_slc sv_loadg sv_load st_call sv_store sv_box sv_alloc sv_mkR sv_bslR sv_nilR sv_app sv_callK stepsAt_some onSome_some onB_true onB_false onG_tt onG_tf onG_ft onG_ff onG_un optPut_some optMem_some
attribute [local simp] evalO evalL constAV get_cons get_nil put_cons put_nil look_cons look_nil putD_some clean_mk freeze_mk mapS del_cons del_nil keepS_cons keepS_nil keepL_cons keepL_nil memb_cons memb_nil unV pureV convV_i addrV toArgs anyRs hasSl2L fromRetL finR resL resV toRets one Nat.beq Nat.ble shiftV_shr shiftV_shl IntKind.bits fillV List.getElem?_cons_zero List.getElem?_cons_succ List.length_cons List.length_nil List.set_cons_zero List.set_cons_succ setR2 setR3 zrep_eqs binV_i binI_shl binI_shr binI_eqs binV_eqs binV_slcE binV_slcN lendsC_some lends_nil lends_eqs fl_lends lends_rf lendsR_some lends_rs lendsS_some seesAny_no callK1_fn callK2_some callK3_some recvPut_some afterK_some afterK_none putAll_nil putAll_cons hasSlLL_nil hasSlLL_cons recv_os recv_op recv_no recvV_some recv_tp recvT_os recvT_op srcV_rs srcR_some List.append_nil intV_quo intV_rem hasSlL mapR_eqs kill1_eqs frz1_eqs enterS_eqs enterL_eqs isRs_eqs toArg_eqs from1_eqs from_eqs toRet_eqs lentOf_eqs countR_eqs hasSl1_eqs hasSl2_eqs hasSl_eqs cellsOf_ag1 cellsOf_ag2 cellsOf_ag3 cellsOf_ag4 cellsOf_ag5 partV_2 partV_3 partV_4 partV_5 toRet_own ownR_of toArg_rs seenR_all seenR_part appS_rs appR_of srcV_sl srcV_z nilS_z bslS_some dec_t dec_f buildV_some bslV_some boxS_some root_mk ixSV_sl ixSV_rs ixAV_rf ixAV_el ixVV_ag fldV_ag lenV_sl lenV_rs lenV_z lenSV_s loadV_rf loadV_el loadR_some partV_none partV_all partV_some storeV_rf setR_one setR_all cellsOf_ag cellsOf_i cellsOf_b cellsOf_sl cellsOf_z cellsOf_er cellsOf_nl cellsOf_np cellsOf_s mkSV_of mkRS_of fl_map fl_kill fl_frz fl_enterS fl_enterL fl_lentOf fl_toArg fl_isRs fl_toRet fl_from1 fl_from fl_cells fl_countR nums_length nums_get nums_set nums_append nums_snoc nums_drop nums_take nums_zrep nums_hasSl bools_length bools_get bools_set bools_snoc bools_zrep bools_hasSl vecs_length vecs_get vecs_snoc slcV_sl idxO idx Nat.zero_add Nat.mul_one Nat.add_zero stepsAt_some onSome_some onB_true onB_false onG_tt onG_tf onG_ft onG_ff onG_un optPut_some optMem_some

def primesL : List Int := [17, 97, 257, 3329, 7681, 12289, 8380417]
def degsL : List Int := [4, 8, 16, 32]
/-- A number without its sign. -/
def bare (a : Int) : Int := if a < 0 then -(a + 1) else a
theorem bare_ok {a : Int} (h : inK .i64 a) : 0 ≤ bare a ∧ bare a ≤ 9223372036854775807 := by
  obtain ⟨h1, h2⟩ := h
  have h1' : -9223372036854775808 ≤ a := h1
  have h2' : a ≤ 9223372036854775807 := h2
  unfold bare; split <;> omega
def mkQ (q : Int) : Int := ni primesL (bare q % 7).toNat
def mkN (n : Int) : Int := ni degsL (bare n % 4).toNat
theorem mkQ_right {q : Int} : Right (mkQ q) := by
  have h : bare q % 7 = 0 ∨ bare q % 7 = 1 ∨ bare q % 7 = 2 ∨ bare q % 7 = 3 ∨ bare q % 7 = 4 ∨ bare q % 7 = 5 ∨ bare q % 7 = 6 := by omega
  unfold mkQ
  rcases h with h | h | h | h | h | h | h <;> rw [h] <;> simp [ni, primesL, Right]
theorem mkN_four {n : Int} : mkN n = 4 ∨ mkN n = 8 ∨ mkN n = 16 ∨ mkN n = 32 := by
  have h : bare n % 4 = 0 ∨ bare n % 4 = 1 ∨ bare n % 4 = 2 ∨ bare n % 4 = 3 := by omega
  unfold mkN
  rcases h with h | h | h | h <;> rw [h] <;> simp [ni, degsL]
theorem mkN_deg {n : Int} : Deg (mkN n) := by
  have := mkN_four (n := n)
  unfold Deg; omega
theorem mk_valid (q n : Int) : valid (mkQ q) (mkN n) = 0 := if_pos ⟨mkQ_right, mkN_deg⟩

theorem MakeRing (q n : Int) (hq : inK .i64 q) (hn : inK .i64 n) : FF tab 34 [.i .i64 q, .i .i64 n] = some ⟨(.ag [.i .i64 (mkQ q), .i .i64 (mkN n)]), []⟩ := by
  refine call_by (A := A34) rfl rfl ?_
  obtain ⟨q1, q2⟩ := inK_i64 hq
  obtain ⟨n1, n2⟩ := inK_i64 hn
  have eP : ([.i .i64 17, .i .i64 97, .i .i64 257, .i .i64 3329, .i .i64 7681, .i .i64 12289, .i .i64 8380417] : List AV) = nums .i64 primesL := rfl
  have eD : ([.i .i64 4, .i .i64 8, .i .i64 16, .i .i64 32] : List AV) = nums .i64 degsL := rfl
  have lP : primesL.length = 7 := rfl
  have lD : degsL.length = 4 := rfl
  have p1 : 0 ≤ bare q % 7 ∧ bare q % 7 < 7 := by omega
  have p2 : 0 ≤ bare n % 4 ∧ bare n % 4 < 4 := by omega
  have g1 := nums_get (k := .i64) (L := primesL) (j := (bare q % 7).toNat) (by omega)
  have g2 := nums_get (k := .i64) (L := degsL) (j := (bare n % 4).toNat) (by omega)
  have lP' : (nums .i64 primesL).length = 7 := rfl
  have lD' : (nums .i64 degsL).length = 4 := rfl
  have bq := bare_ok hq
  have bn := bare_ok hn
  have tq : (bare q).tmod 7 = bare q % 7 := Int.tmod_eq_emod_of_nonneg bq.1
  have tn : (bare n).tmod 4 = bare n % 4 := Int.tmod_eq_emod_of_nonneg bn.1
  have eQ : mkQ q = ni primesL (bare q % 7).toNat := rfl
  have eN : mkN n = ni degsL (bare n % 4).toNat := rfl
  rw [← eQ] at g1
  rw [← eN] at g2
  generalize mkQ q = MQ at *
  generalize mkN n = MN at *
  have sQ : (q < 0 ∧ ∃ Q1, IntKind.i64.wrap (q + 1) = Q1 ∧ IntKind.i64.wrap (-Q1) = bare q) ∨ (¬ q < 0 ∧ bare q = q) := by
    by_cases h : q < 0
    · left
      refine ⟨h, _, rfl, ?_⟩
      rw [show IntKind.i64.wrap (q + 1) = q + 1 from i64_in _ (by omega), show bare q = -(q + 1) from if_pos h]
      exact i64_in _ (by omega)
    · right; exact ⟨h, if_neg h⟩
  have sN : (n < 0 ∧ ∃ Q1, IntKind.i64.wrap (n + 1) = Q1 ∧ IntKind.i64.wrap (-Q1) = bare n) ∨ (¬ n < 0 ∧ bare n = n) := by
    by_cases h : n < 0
    · left
      refine ⟨h, _, rfl, ?_⟩
      rw [show IntKind.i64.wrap (n + 1) = n + 1 from i64_in _ (by omega), show bare n = -(n + 1) from if_pos h]
      exact i64_in _ (by omega)
    · right; exact ⟨h, if_neg h⟩
  generalize bare q = BQ at *
  generalize bare n = BN at *
  generalize nums .i64 primesL = cP at *
  generalize nums .i64 degsL = cD at *
  rcases sQ with ⟨hq0, Q1, w1, w2⟩ | ⟨hq0, rfl⟩ <;> rcases sN with ⟨hn0, N1, w3, w4⟩ | ⟨hn0, rfl⟩
  · simp (disch := first | assumption | omega | (simp only [List.length_cons, List.length_nil, List.length_set, List.length_append, List.length_replicate, List.length_map, List.length_range, List.length_take, List.length_drop, nums_length, bools_length, vecs_length]; first | done | omega)) [A34, hq0, hn0, ↓eP, ↓eD, w1, w2, w3, w4, tq, tn, g1, g2, setR2]
  · simp (disch := first | assumption | omega | (simp only [List.length_cons, List.length_nil, List.length_set, List.length_append, List.length_replicate, List.length_map, List.length_range, List.length_take, List.length_drop, nums_length, bools_length, vecs_length]; first | done | omega)) [A34, hq0, hn0, ↓eP, ↓eD, w1, w2, tq, tn, g1, g2, setR2]
  · simp (disch := first | assumption | omega | (simp only [List.length_cons, List.length_nil, List.length_set, List.length_append, List.length_replicate, List.length_map, List.length_range, List.length_take, List.length_drop, nums_length, bools_length, vecs_length]; first | done | omega)) [A34, hq0, hn0, ↓eP, ↓eD, w3, w4, tq, tn, g1, g2, setR2]
  · simp (disch := first | assumption | omega | (simp only [List.length_cons, List.length_nil, List.length_set, List.length_append, List.length_replicate, List.length_map, List.length_range, List.length_take, List.length_drop, nums_length, bools_length, vecs_length]; first | done | omega)) [A34, hq0, hn0, ↓eP, ↓eD, tq, tn, g1, g2, setR2]

/-- Numbers modulo q, as many as there are; 0 behind them. -/
def mkVec (q n : Int) (L : List Int) : List Int := (List.range n.toNat).map fun j => if j < L.length then ni L j % q else 0
theorem mkVec_len (q n : Int) (L : List Int) : (mkVec q n L).length = n.toNat := by simp [mkVec]
theorem mkVec_ni (q n : Int) (L : List Int) {j : Nat} (h : j < n.toNat) : ni (mkVec q n L) j = if j < L.length then ni L j % q else 0 := ni_map h
theorem mkVec_mods {q : Int} (n : Int) (L : List Int) (h : 0 < q) : Mods q (mkVec q n L) := mods_step fun j hj => by
  rw [mkVec_len] at hj
  rw [mkVec_ni q n L hj]
  have h1 := Int.emod_nonneg (ni L j) (show q ≠ 0 by omega)
  have h2 := Int.emod_lt_of_pos (ni L j) h
  split <;> omega
theorem mkVec_bad {q n : Int} (L : List Int) (hv : valid q n = 0) : vecBad q n (mkVec q n L) = 0 := by
  obtain ⟨hq, hd⟩ : Right q ∧ Deg n := by unfold valid at hv; split at hv <;> simp_all
  have := hq.lo
  have := hd.lo
  exact vecBad_zero.2 ⟨hq, hd, by rw [mkVec_len]; omega, mkVec_mods n L (by omega)⟩

theorem MakeVector (q n : Int) (hv : valid q n = 0) {x : AV} {L : List Int} (hx : IsL .i64 x L) (hs : L.length < 9223372036854775807) : FF tab 40 [(.ag [.i .i64 (q), .i .i64 (n)]), x] = some ⟨.os (nums .i64 (mkVec q n L)) (mkVec q n L).length 1, []⟩ := by
  obtain ⟨hq, hd⟩ : Right q ∧ Deg n := by unfold valid at hv; split at hv <;> simp_all
  have lo := hq.lo
  have qhi := hq.hi
  have nlo := hd.lo
  have nhi := hd.hi
  refine call_by (A := A40) rfl rfl ?_
  have fx := hx.flat
  have hlen := lenV_isL hx
  have hml := mkVec_len q n L
  simp (disch := first | assumption | omega | (simp only [List.length_cons, List.length_nil, List.length_set, List.length_append, List.length_replicate, List.length_map, List.length_range, List.length_take, List.length_drop, nums_length, bools_length, vecs_length]; first | done | omega)) [A40]
  let g : Nat → Int := fun j => if j < L.length then ni L j % q else 0
  have hz := fillTo_zero g n.toNat
  refine w_heads (min n.toNat L.length) (fun k => ⟨[(6, .i .i64 k), (5, .rs 10 0 n.toNat 1), (2, .rf 2 0), (1, x)], [(10, nums .i64 (fillTo g n.toNat k)), (2, [.i .i64 q, .i .i64 n])]⟩) (by rw [hz]; simp (disch := first | assumption | omega | (simp only [List.length_cons, List.length_nil, List.length_set, List.length_append, List.length_replicate, List.length_map, List.length_range, List.length_take, List.length_drop, nums_length, bools_length, vecs_length]; first | done | omega)) []) ?_ ?_
  · intro k hk
    have w1 : IntKind.i64.wrap ((k : Int) + 1) = (k : Int) + 1 := i64_in _ (by omega)
    have hkn : (k : Int).toNat = k := Int.toNat_natCast _
    have hix := ixSV_isL hx (k' := .i64) (j := (k : Int)) (by omega) (by omega)
    rw [hkn] at hix
    have hget := nums_get (k := .i64) (L := L) (j := k) (by omega)
    have hl := fillTo_len g n.toNat k
    have hset := fillTo_set g (show k < n.toNat by omega)
    have hg : g k = ni L k % q := if_pos (by omega)
    have hlt : (k : Int) < n ∧ (k : Int) < (L.length : Int) ∧ (k : Int) < (n.toNat : Int) := by omega
    have h0 : q ≠ 0 := by omega
    have a0 := Int.emod_nonneg (ni L k) h0
    have a1 := Int.emod_lt_of_pos (ni L k) (show 0 < q by omega)
    have w2 : IntKind.i64.wrap (ni L k % q) = ni L k % q := i64_in _ (by omega)
    have htm := tmod_two (ni L k) (show 0 < q by omega)
    generalize hT : (k : Int) = T at *
    generalize fillTo g n.toNat k = F at *
    rw [hg] at hset
    generalize ni L k % q = V at *
    rcases htm with ⟨g1, g2⟩ | ⟨g1, g2⟩
    · simp (disch := first | assumption | omega | (simp only [List.length_cons, List.length_nil, List.length_set, List.length_append, List.length_replicate, List.length_map, List.length_range, List.length_take, List.length_drop, nums_length, bools_length, vecs_length]; first | done | omega)) [hlen, hix, hget, hkn, w1, hT, h0, g2, nums_set, hset]
    · simp (disch := first | assumption | omega | (simp only [List.length_cons, List.length_nil, List.length_set, List.length_append, List.length_replicate, List.length_map, List.length_range, List.length_take, List.length_drop, nums_length, bools_length, vecs_length]; first | done | omega)) [hlen, hix, hget, hkn, w1, w2, hT, h0, g1, g2, nums_set, hset]
  · have e : fillTo g n.toNat (min n.toNat L.length) = mkVec q n L := by
      unfold fillTo mkVec
      apply List.map_congr_left
      intro j hj
      have hj := List.mem_range.1 hj
      by_cases h : j < L.length
      · rw [if_pos (by omega), if_pos h]; exact if_pos h
      · rw [if_neg (by omega), if_neg h]
    rw [e]
    have hfin : ¬ ((min n.toNat L.length : Nat) : Int) < n ∨ (((min n.toNat L.length : Nat) : Int) < n ∧ ¬ ((min n.toNat L.length : Nat) : Int) < (L.length : Int)) := by omega
    generalize ((min n.toNat L.length : Nat) : Int) = M at *
    rw [← hml]
    have hn2 : 2 ≤ 10 := by omega
    rcases hfin with h | ⟨h1, h2⟩
    · simp (disch := first | assumption | omega | (simp only [List.length_cons, List.length_nil, List.length_set, List.length_append, List.length_replicate, List.length_map, List.length_range, List.length_take, List.length_drop, nums_length, bools_length, vecs_length]; first | done | omega)) [hlen, h]
    · simp (disch := first | assumption | omega | (simp only [List.length_cons, List.length_nil, List.length_set, List.length_append, List.length_replicate, List.length_map, List.length_range, List.length_take, List.length_drop, nums_length, bools_length, vecs_length]; first | done | omega)) [hlen, h1, h2]
end Zab.YtcebddjidpbhgaaDoorB
