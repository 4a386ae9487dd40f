/- The statements of chapter 7: there and back. -/
import Derived.Test.YtcebddjidpbhgaaDoorBRouF
import Derived.Test.YtcebddjidpbhgaaDoorBRouP
namespace Zab.YtcebddjidpbhgaaDoorB
open Go
open Go.IntWalk (i64_in)
set_option maxRecDepth 100000
set_option linter.unusedSimpArgs false
set_option linter.unusedVariables false
attribute [-simp] getElem?_pos
attribute [local simp ↓] W_loop W_seq W_skip W_ret W_exit W_reg W_cond W_block W_pre cleanO_some freezes_nil freezes_cons frzO_some andThen_normal andThen_ret andThen_exit unblock_normal unblock_ret unblock_exit Ends_normal Ends_ret steps_nil steps_cons step_some st_move st_pick st_bin st_un st_conv st_addr sv_ixA sv_ixS sv_fld sv_ixV st_ixStr st_ext sv_build sv_bsl sv_mkS st_mkfn sv_lenS sv_len st_mn st_mx st_nilChk st_tas st_slc sv_loadg sv_load st_call sv_store sv_box sv_alloc sv_mkR sv_bslR sv_nilR sv_app st_callK stepsAt_some onSome_some onB_true onB_false onG_tt onG_tf onG_ft onG_ff onG_un optPut_some optMem_some
attribute [local simp] evalO evalL constAV get_cons get_nil put_cons put_nil look_cons look_nil putD_some clean_mk freeze_mk mapS del_cons del_nil keepS_cons keepS_nil keepL_cons keepL_nil memb_cons memb_nil unV pureV convV_i addrV toArgs anyRs hasSl2L fromRetL finR resL resV toRets one Nat.beq Nat.ble shiftV_shr shiftV_shl IntKind.bits fillV List.getElem?_cons_zero List.getElem?_cons_succ List.length_cons List.length_nil List.set_cons_zero List.set_cons_succ setR2 setR3 zrep_eqs binV_i binI_shl binI_shr binI_eqs binV_eqs intV_quo intV_rem hasSlL mapR_eqs kill1_eqs frz1_eqs enterS_eqs enterL_eqs isRs_eqs toArg_eqs from1_eqs from_eqs toRet_eqs lentOf_eqs countR_eqs hasSl1_eqs hasSl2_eqs hasSl_eqs cellsOf_ag1 cellsOf_ag2 cellsOf_ag3 cellsOf_ag4 cellsOf_ag5 partV_2 partV_3 partV_4 partV_5 toRet_own ownR_of toArg_rs seenR_all seenR_part appS_rs appR_of srcV_sl srcV_z nilS_z bslS_some dec_t dec_f buildV_some bslV_some boxS_some root_mk ixSV_sl ixSV_rs ixAV_rf ixAV_el ixVV_ag fldV_ag lenV_sl lenV_rs lenV_z lenSV_s loadV_rf loadV_el loadR_some partV_none partV_all partV_some storeV_rf setR_one setR_all cellsOf_ag cellsOf_i cellsOf_b cellsOf_sl cellsOf_z cellsOf_er cellsOf_nl cellsOf_np cellsOf_s mkSV_of mkRS_of fl_map fl_kill fl_frz fl_enterS fl_enterL fl_lentOf fl_toArg fl_isRs fl_toRet fl_from1 fl_from fl_cells fl_countR nums_length nums_get nums_set nums_append nums_snoc nums_drop nums_take nums_zrep nums_hasSl bools_length bools_get bools_set bools_snoc bools_zrep bools_hasSl vecs_length vecs_get vecs_snoc slcV_sl idxO idx Nat.zero_add Nat.mul_one Nat.add_zero stepsAt_some onSome_some onB_true onB_false onG_tt onG_tf onG_ft onG_ff onG_un optPut_some optMem_some

set_option maxHeartbeats 4000000 in
theorem RoundBack (q0 : Int) (hq0 : inK .i64 q0) (n : Int) (hn0 : inK .i64 n) (d : Int) (hd0 : inK .i64 d) (x : AV) (L : List Int) (hxN : IsNums .i64 x L) : FF tab 10 [.i .i64 q0, .i .i64 n, .i .i64 d, x] = some ⟨.b true, []⟩ := by
  refine call_by (A := A10) rfl rfl ?_
  have hx := hxN.isL
  have fx := hx.flat
  have hlen := lenV_isL hx
  have h1 := first7
  by_cases hl : 40 < (L.length : Int)
  · simp (disch := first | assumption | omega | (simp only [List.length_cons, List.length_nil, List.length_set, List.length_append, List.length_replicate, List.length_map, List.length_range, List.length_take, List.length_drop, nums_length, bools_length, vecs_length]; first | done | omega)) [A10, h1, hlen, hl]
  have hR := MakeRing q0 n hq0 hn0
  have hMQ := mkQ_right (q := q0)
  have hMN := mkN_deg (n := n)
  have hN := Number d 11 (by omega) (by omega)
  have d0 : 0 ≤ d % 11 ∧ d % 11 < 11 := by omega
  generalize d % 11 = D1 at *
  generalize mkQ q0 = MQ at *
  generalize mkN n = N at *
  have w0 : IntKind.i64.wrap (D1 + 1) = D1 + 1 := i64_in _ (by omega)
  have u1 := u64_in (a := D1 + 1) (by omega) (by omega)
  have hp1 := P_bound (d := D1 + 1) (by omega) (by omega)
  have s1 := shl_P (a := 1) (d := D1 + 1) (b := P (D1 + 1)) (by omega) (by omega) (by omega) (by omega)
  obtain ⟨q, hq, c1⟩ : ∃ q, Right q ∧ ((20000 < MQ ∧ (3329 : Int) = q) ∨ (¬ 20000 < MQ ∧ MQ = q)) := by
    by_cases h : 20000 < MQ
    · exact ⟨3329, by unfold Right; omega, .inl ⟨h, rfl⟩⟩
    · exact ⟨MQ, hMQ, .inr ⟨h, rfl⟩⟩
  obtain ⟨D, hb, hD12, c2⟩ : ∃ D, Bits q D ∧ D ≤ 11 ∧ ((q ≤ P (D1 + 1) ∧ (2 : Int) = D) ∨ (¬ q ≤ P (D1 + 1) ∧ D1 + 1 = D)) := by
    by_cases h : q ≤ P (D1 + 1)
    · have lo := hq.lo
      exact ⟨2, ⟨by omega, by omega, by have : P 2 = 4 := rfl; omega⟩, by omega, .inl ⟨h, rfl⟩⟩
    · exact ⟨D1 + 1, ⟨by omega, by omega, by omega⟩, by omega, .inr ⟨h, rfl⟩⟩
  have lo := hq.lo
  have hi := hq.hi
  have nlo := hMN.lo
  have nhi := hMN.hi
  have hv : valid q N = 0 := if_pos ⟨hq, hMN⟩
  have hV := MakeVector q N hv hx (by omega)
  have ml := mkVec_len q N L
  have hA := mkVec_bad (q := q) (n := N) L hv
  have hAm := mkVec_mods (q := q) N L (by omega)
  generalize mkVec q N L = A at *
  have hX := rDown q N (.mk .i64 A) hb hA
  have hXl := downL_len q D A
  have hXm := downL_mods hb A
  have hXat : ∀ j, j < A.length → ni (downL q D A) j = downN q D (ni A j) := fun j hj => by
    rw [ni_get (by rw [hXl]; exact hj), ni_get hj]; simp [downL]
  have hu0 : upBad q N D (downL q D A) = 0 := upBad_zero.2 ⟨hq, hMN, hb, by rw [hXl]; omega, hXm⟩
  have hU := rUp q N D (.mk .i64 (downL q D A)) (by omega)
  rw [hu0, if_pos rfl] at hU
  have hYl := upL_len q D (downL q D A)
  have hYat : ∀ j, j < A.length → ni (upL q D (downL q D A)) j = upN q D (downN q D (ni A j)) := fun j hj => by
    rw [← hXat j hj, ni_get (by rw [hYl, hXl]; exact hj), ni_get (by rw [hXl]; exact hj)]; simp [upL]
  have hYm : Mods q (upL q D (downL q D A)) := by
    intro y hy
    obtain ⟨z, hz, rfl⟩ := List.mem_map.1 hy
    have := hXm z hz
    exact ⟨(upN_bound hq hb this.1 this.2).1, upN_lt hq hb this.1 this.2⟩
  have hbk : downL q D (upL q D (downL q D A)) = downL q D A := by
    have : ∀ M : List Int, Mods (P D) M → downL q D (upL q D M) = M := fun M hM => by
      unfold downL upL
      rw [List.map_map]
      conv => rhs; rw [← List.map_id M]
      exact List.map_congr_left fun z hz => back hq hb (hM z hz).1 (hM z hz).2
    exact this _ hXm
  have hZ := rDown q N (.mk .i64 (upL q D (downL q D A))) hb (vecBad_zero.2 ⟨hq, hMN, by rw [hYl, hXl]; omega, hYm⟩)
  rw [hbk] at hZ
  have hLo := rLoss q N hq hMN hb
  have hS := SameInts (.mk .i64 (downL q D A)) (.mk .i64 (downL q D A)) (by omega)
  have hLle := lossN_le hq hb
  have hLat : ∀ j, j < A.length → absI (cen q (ni (upL q D (downL q D A)) j - ni A j)) ≤ lossN q D := fun j hj => by
    rw [hYat j hj]
    have := mods_at hAm hj
    have h2 := lossN_at (q := q) D (j := (ni A j).toNat) (by omega)
    unfold lossAt at h2
    rwa [Int.toNat_of_nonneg this.1] at h2
  have hLb := lossN_bound hq D
  have d1 := hb.1
  have w2 : IntKind.i64.wrap (D + 1) = D + 1 := i64_in _ (by omega)
  have u2 := u64_in (a := D + 1) (by omega) (by omega)
  have s2 := shr_P (a := q) (d := D + 1) (by omega) (by omega)
  have hp2 := P_bound (d := D + 1) (by omega) (by omega)
  have hqd : 0 ≤ q / P (D + 1) ∧ q / P (D + 1) ≤ q := ⟨Int.ediv_nonneg (by omega) (by omega), Int.ediv_le_self _ (by omega)⟩
  have w3 : IntKind.i64.wrap (q / P (D + 1) + 1) = q / P (D + 1) + 1 := i64_in _ (by omega)
  have hp := P_bound (d := D) (by omega) (by omega)
  have u3 := u64_in (a := D) (by omega) (by omega)
  have s3 := shl_P (a := 1) (d := D) (b := P D) (by omega) (by omega) (by omega) (by omega)
  have hXlen : (downL q D A).length = A.length := hXl
  have hYlen : (upL q D (downL q D A)).length = A.length := by omega
  simp only [slv, hXl, hYl, decide_true] at hX hU hZ hS
  rw [show errV 0 = .nl from rfl] at hU
  generalize downL q D A = X at *
  generalize upL q D X = Y at *
  generalize lossN q D = LO at *
  have hmN : (A.length : Int) = N := by omega
  generalize hm : A.length = m at *
  rcases c1 with ⟨c1, e1⟩ | ⟨c1, e1⟩ <;> rcases c2 with ⟨c2, e2⟩ | ⟨c2, e2⟩
  · simp (disch := first | assumption | omega | (simp only [List.length_cons, List.length_nil, List.length_set, List.length_append, List.length_replicate, List.length_map, List.length_range, List.length_take, List.length_drop, nums_length, bools_length, vecs_length]; first | done | omega)) [A10, h1, hlen, hl, hR, hN, hV, hX, hU, hZ, hLo, hS, w0, u1, s1, c1, c2, e1, e2, setR2, hmN, -shiftV_shl, -shiftV_shr]
    refine w_heads m (fun k => ⟨[(20, .i .i64 k), (18, .i .i64 LO), (14, .sl (nums .i64 Y) m), (12, .sl (nums .i64 X) m), (11, .sl (nums .i64 A) m), (10, .rf 10 0), (9, .b true), (2, .i .i64 D)], [(10, [.i .i64 q, .i .i64 N])]⟩) (by simp (disch := first | assumption | omega | (simp only [List.length_cons, List.length_nil, List.length_set, List.length_append, List.length_replicate, List.length_map, List.length_range, List.length_take, List.length_drop, nums_length, bools_length, vecs_length]; first | done | omega)) []) ?_ ?_
    · intro k hk
      have w1 : IntKind.i64.wrap ((k : Int) + 1) = (k : Int) + 1 := i64_in _ (by omega)
      have hkn : (k : Int).toNat = k := Int.toNat_natCast _
      have gX := nums_get (k := .i64) (L := X) (j := k) (by omega)
      have gY := nums_get (k := .i64) (L := Y) (j := k) (by omega)
      have gA := nums_get (k := .i64) (L := A) (j := k) (by omega)
      have mX := mods_at hXm (j := k) (by omega)
      have mY := mods_at hYm (j := k) (by omega)
      have mA := mods_at hAm (j := k) (by omega)
      have hC := fCenter (ni Y k - ni A k) hq
      have hc := cen_abs (ni Y k - ni A k) hq
      have hAb := fAbs (cen q (ni Y k - ni A k)) (by omega)
      have hle := hLat k (by omega)
      have w4 : IntKind.i64.wrap (ni Y k - ni A k) = ni Y k - ni A k := i64_in _ (by omega)
      have b1 : ¬ ni X k < 0 := by omega
      have b2 : ¬ P D ≤ ni X k := by omega
      have b3 : ¬ ni Y k < 0 := by omega
      have b4 : ¬ q ≤ ni Y k := by omega
      have b5 : ¬ LO < absI (cen q (ni Y k - ni A k)) := by omega
      have hlt : (k : Int) < N ∧ (k : Int) < (m : Int) := by omega
      generalize hT : (k : Int) = T at *
      generalize cen q (ni Y k - ni A k) = C at *
      generalize absI C = AC1 at *
      simp (disch := first | assumption | omega | (simp only [List.length_cons, List.length_nil, List.length_set, List.length_append, List.length_replicate, List.length_map, List.length_range, List.length_take, List.length_drop, nums_length, bools_length, vecs_length]; first | done | omega)) [hkn, gX, gY, gA, hC, hAb, w1, w4, b1, b2, b3, b4, b5, u3, s3, hT, -shiftV_shl]
    · have hN' : ((m : Nat) : Int) = N := hmN
      simp (disch := first | assumption | omega | (simp only [List.length_cons, List.length_nil, List.length_set, List.length_append, List.length_replicate, List.length_map, List.length_range, List.length_take, List.length_drop, nums_length, bools_length, vecs_length]; first | done | omega)) [hN', w2, u2, s2, w3, hLle, -shiftV_shr]
  · rw [e2] at w0 u1 s1 c2
    simp (disch := first | assumption | omega | (simp only [List.length_cons, List.length_nil, List.length_set, List.length_append, List.length_replicate, List.length_map, List.length_range, List.length_take, List.length_drop, nums_length, bools_length, vecs_length]; first | done | omega)) [A10, h1, hlen, hl, hR, hN, hV, hX, hU, hZ, hLo, hS, w0, u1, s1, c1, c2, e1, e2, setR2, hmN, -shiftV_shl, -shiftV_shr]
    refine w_heads m (fun k => ⟨[(20, .i .i64 k), (18, .i .i64 LO), (14, .sl (nums .i64 Y) m), (12, .sl (nums .i64 X) m), (11, .sl (nums .i64 A) m), (10, .rf 10 0), (9, .b true), (2, .i .i64 D)], [(10, [.i .i64 q, .i .i64 N])]⟩) (by simp (disch := first | assumption | omega | (simp only [List.length_cons, List.length_nil, List.length_set, List.length_append, List.length_replicate, List.length_map, List.length_range, List.length_take, List.length_drop, nums_length, bools_length, vecs_length]; first | done | omega)) []) ?_ ?_
    · intro k hk
      have w1 : IntKind.i64.wrap ((k : Int) + 1) = (k : Int) + 1 := i64_in _ (by omega)
      have hkn : (k : Int).toNat = k := Int.toNat_natCast _
      have gX := nums_get (k := .i64) (L := X) (j := k) (by omega)
      have gY := nums_get (k := .i64) (L := Y) (j := k) (by omega)
      have gA := nums_get (k := .i64) (L := A) (j := k) (by omega)
      have mX := mods_at hXm (j := k) (by omega)
      have mY := mods_at hYm (j := k) (by omega)
      have mA := mods_at hAm (j := k) (by omega)
      have hC := fCenter (ni Y k - ni A k) hq
      have hc := cen_abs (ni Y k - ni A k) hq
      have hAb := fAbs (cen q (ni Y k - ni A k)) (by omega)
      have hle := hLat k (by omega)
      have w4 : IntKind.i64.wrap (ni Y k - ni A k) = ni Y k - ni A k := i64_in _ (by omega)
      have b1 : ¬ ni X k < 0 := by omega
      have b2 : ¬ P D ≤ ni X k := by omega
      have b3 : ¬ ni Y k < 0 := by omega
      have b4 : ¬ q ≤ ni Y k := by omega
      have b5 : ¬ LO < absI (cen q (ni Y k - ni A k)) := by omega
      have hlt : (k : Int) < N ∧ (k : Int) < (m : Int) := by omega
      generalize hT : (k : Int) = T at *
      generalize cen q (ni Y k - ni A k) = C at *
      generalize absI C = AC1 at *
      simp (disch := first | assumption | omega | (simp only [List.length_cons, List.length_nil, List.length_set, List.length_append, List.length_replicate, List.length_map, List.length_range, List.length_take, List.length_drop, nums_length, bools_length, vecs_length]; first | done | omega)) [hkn, gX, gY, gA, hC, hAb, w1, w4, b1, b2, b3, b4, b5, u3, s3, hT, -shiftV_shl]
    · have hN' : ((m : Nat) : Int) = N := hmN
      simp (disch := first | assumption | omega | (simp only [List.length_cons, List.length_nil, List.length_set, List.length_append, List.length_replicate, List.length_map, List.length_range, List.length_take, List.length_drop, nums_length, bools_length, vecs_length]; first | done | omega)) [hN', w2, u2, s2, w3, hLle, -shiftV_shr]
  · rw [e1] at c1
    simp (disch := first | assumption | omega | (simp only [List.length_cons, List.length_nil, List.length_set, List.length_append, List.length_replicate, List.length_map, List.length_range, List.length_take, List.length_drop, nums_length, bools_length, vecs_length]; first | done | omega)) [A10, h1, hlen, hl, hR, hN, hV, hX, hU, hZ, hLo, hS, w0, u1, s1, c1, c2, e1, e2, setR2, hmN, -shiftV_shl, -shiftV_shr]
    refine w_heads m (fun k => ⟨[(20, .i .i64 k), (18, .i .i64 LO), (14, .sl (nums .i64 Y) m), (12, .sl (nums .i64 X) m), (11, .sl (nums .i64 A) m), (10, .rf 10 0), (9, .b true), (2, .i .i64 D)], [(10, [.i .i64 q, .i .i64 N])]⟩) (by simp (disch := first | assumption | omega | (simp only [List.length_cons, List.length_nil, List.length_set, List.length_append, List.length_replicate, List.length_map, List.length_range, List.length_take, List.length_drop, nums_length, bools_length, vecs_length]; first | done | omega)) []) ?_ ?_
    · intro k hk
      have w1 : IntKind.i64.wrap ((k : Int) + 1) = (k : Int) + 1 := i64_in _ (by omega)
      have hkn : (k : Int).toNat = k := Int.toNat_natCast _
      have gX := nums_get (k := .i64) (L := X) (j := k) (by omega)
      have gY := nums_get (k := .i64) (L := Y) (j := k) (by omega)
      have gA := nums_get (k := .i64) (L := A) (j := k) (by omega)
      have mX := mods_at hXm (j := k) (by omega)
      have mY := mods_at hYm (j := k) (by omega)
      have mA := mods_at hAm (j := k) (by omega)
      have hC := fCenter (ni Y k - ni A k) hq
      have hc := cen_abs (ni Y k - ni A k) hq
      have hAb := fAbs (cen q (ni Y k - ni A k)) (by omega)
      have hle := hLat k (by omega)
      have w4 : IntKind.i64.wrap (ni Y k - ni A k) = ni Y k - ni A k := i64_in _ (by omega)
      have b1 : ¬ ni X k < 0 := by omega
      have b2 : ¬ P D ≤ ni X k := by omega
      have b3 : ¬ ni Y k < 0 := by omega
      have b4 : ¬ q ≤ ni Y k := by omega
      have b5 : ¬ LO < absI (cen q (ni Y k - ni A k)) := by omega
      have hlt : (k : Int) < N ∧ (k : Int) < (m : Int) := by omega
      generalize hT : (k : Int) = T at *
      generalize cen q (ni Y k - ni A k) = C at *
      generalize absI C = AC1 at *
      simp (disch := first | assumption | omega | (simp only [List.length_cons, List.length_nil, List.length_set, List.length_append, List.length_replicate, List.length_map, List.length_range, List.length_take, List.length_drop, nums_length, bools_length, vecs_length]; first | done | omega)) [hkn, gX, gY, gA, hC, hAb, w1, w4, b1, b2, b3, b4, b5, u3, s3, hT, -shiftV_shl]
    · have hN' : ((m : Nat) : Int) = N := hmN
      simp (disch := first | assumption | omega | (simp only [List.length_cons, List.length_nil, List.length_set, List.length_append, List.length_replicate, List.length_map, List.length_range, List.length_take, List.length_drop, nums_length, bools_length, vecs_length]; first | done | omega)) [hN', w2, u2, s2, w3, hLle, -shiftV_shr]
  · rw [e2] at w0 u1 s1 c2
    rw [e1] at c1
    simp (disch := first | assumption | omega | (simp only [List.length_cons, List.length_nil, List.length_set, List.length_append, List.length_replicate, List.length_map, List.length_range, List.length_take, List.length_drop, nums_length, bools_length, vecs_length]; first | done | omega)) [A10, h1, hlen, hl, hR, hN, hV, hX, hU, hZ, hLo, hS, w0, u1, s1, c1, c2, e1, e2, setR2, hmN, -shiftV_shl, -shiftV_shr]
    refine w_heads m (fun k => ⟨[(20, .i .i64 k), (18, .i .i64 LO), (14, .sl (nums .i64 Y) m), (12, .sl (nums .i64 X) m), (11, .sl (nums .i64 A) m), (10, .rf 10 0), (9, .b true), (2, .i .i64 D)], [(10, [.i .i64 q, .i .i64 N])]⟩) (by simp (disch := first | assumption | omega | (simp only [List.length_cons, List.length_nil, List.length_set, List.length_append, List.length_replicate, List.length_map, List.length_range, List.length_take, List.length_drop, nums_length, bools_length, vecs_length]; first | done | omega)) []) ?_ ?_
    · intro k hk
      have w1 : IntKind.i64.wrap ((k : Int) + 1) = (k : Int) + 1 := i64_in _ (by omega)
      have hkn : (k : Int).toNat = k := Int.toNat_natCast _
      have gX := nums_get (k := .i64) (L := X) (j := k) (by omega)
      have gY := nums_get (k := .i64) (L := Y) (j := k) (by omega)
      have gA := nums_get (k := .i64) (L := A) (j := k) (by omega)
      have mX := mods_at hXm (j := k) (by omega)
      have mY := mods_at hYm (j := k) (by omega)
      have mA := mods_at hAm (j := k) (by omega)
      have hC := fCenter (ni Y k - ni A k) hq
      have hc := cen_abs (ni Y k - ni A k) hq
      have hAb := fAbs (cen q (ni Y k - ni A k)) (by omega)
      have hle := hLat k (by omega)
      have w4 : IntKind.i64.wrap (ni Y k - ni A k) = ni Y k - ni A k := i64_in _ (by omega)
      have b1 : ¬ ni X k < 0 := by omega
      have b2 : ¬ P D ≤ ni X k := by omega
      have b3 : ¬ ni Y k < 0 := by omega
      have b4 : ¬ q ≤ ni Y k := by omega
      have b5 : ¬ LO < absI (cen q (ni Y k - ni A k)) := by omega
      have hlt : (k : Int) < N ∧ (k : Int) < (m : Int) := by omega
      generalize hT : (k : Int) = T at *
      generalize cen q (ni Y k - ni A k) = C at *
      generalize absI C = AC1 at *
      simp (disch := first | assumption | omega | (simp only [List.length_cons, List.length_nil, List.length_set, List.length_append, List.length_replicate, List.length_map, List.length_range, List.length_take, List.length_drop, nums_length, bools_length, vecs_length]; first | done | omega)) [hkn, gX, gY, gA, hC, hAb, w1, w4, b1, b2, b3, b4, b5, u3, s3, hT, -shiftV_shl]
    · have hN' : ((m : Nat) : Int) = N := hmN
      simp (disch := first | assumption | omega | (simp only [List.length_cons, List.length_nil, List.length_set, List.length_append, List.length_replicate, List.length_map, List.length_range, List.length_take, List.length_drop, nums_length, bools_length, vecs_length]; first | done | omega)) [hN', w2, u2, s2, w3, hLle, -shiftV_shr]
end Zab.YtcebddjidpbhgaaDoorB
