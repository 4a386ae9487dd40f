/- The statements of chapter 5: edges. -/
import Derived.Test.YtohilcdmockfbaaDoorBSpo2
import Derived.Test.YtohilcdmockfbaaDoorBNum
import Derived.KernelRfl
namespace Zab.YtohilcdmockfbaaDoorB
open Go
open Go.IntWalk (i64_in)
set_option maxRecDepth 100000
set_option linter.unusedSimpArgs false
set_option linter.unusedVariables false
attribute [-simp] getElem?_pos
attribute [local simp ↓] W_loop W_seq W_skip W_ret W_exit W_reg W_cond W_block W_pre cleanO_some freezes_nil freezes_cons frzO_some andThen_normal andThen_ret andThen_exit unblock_normal unblock_ret unblock_exit Ends_normal Ends_ret steps_nil steps_cons step_some st_move st_pick st_bin st_un st_conv st_addr sv_ixA sv_ixS sv_fld sv_ixV st_ixStr st_ext sv_build sv_bsl sv_mkS st_mkfn sv_lenS sv_len st_mn st_mx st_nilChk st_tas st_slc sv_ldg sv_loadg sv_load st_call sv_store sv_box sv_alloc sv_mkR sv_bslR sv_nilR sv_app sv_callK stepsAt_some onSome_some onB_true onB_false onG_tt onG_tf onG_ft onG_ff onG_un optPut_some optMem_some
attribute [local simp] evalO evalL constAV get_cons get_nil put_cons put_nil look_cons look_nil putD_some clean_mk freeze_mk mapS del_cons del_nil keepS_cons keepS_nil keepL_cons keepL_nil memb_cons memb_nil unV pureV convV_i addrV toArgs anyRs hasSl2L fromRetL finR resL resV toRets one Nat.beq Nat.ble shiftV_shr shiftV_shl IntKind.bits fillV List.getElem?_cons_zero List.getElem?_cons_succ List.length_cons List.length_nil List.set_cons_zero List.set_cons_succ setR2 setR3 zrep_eqs binV_i binI_shl binI_shr binI_eqs binV_eqs binV_slcE binV_slcN lendsC_some lends_nil lends_eqs fl_lends lends_rf lendsR_some lends_rs lendsS_some seesAny_no callK1_fn callK2_some callK3_some recvPut_some afterK_some afterK_none putAll_nil putAll_cons hasSlLL_nil hasSlLL_cons recv_os recv_op recv_no recvV_some recv_tp recvT_os recvT_op srcV_rs srcR_some List.append_nil intV_quo intV_rem hasSlL mapR_eqs kill1_eqs frz1_eqs enterS_eqs enterL_eqs isRs_eqs toArg_eqs from1_eqs from_eqs toRet_eqs lentOf_eqs countR_eqs hasSl1_eqs hasSl2_eqs hasSl_eqs cellsOf_ag1 cellsOf_ag2 cellsOf_ag3 cellsOf_ag4 cellsOf_ag5 partV_2 partV_3 partV_4 partV_5 toRet_own ownR_of toArg_rs seenR_all seenR_part appS_rs appR_of srcV_sl srcV_z nilS_z bslS_some dec_t dec_f buildV_some bslV_some boxS_some root_mk ixSV_sl ixSV_rs ixAV_rf ixAV_el ixVV_ag fldV_ag lenV_sl lenV_rs lenV_z lenSV_s loadV_rf loadV_el loadR_some partV_none partV_all partV_some storeV_rf setR_one setR_all cellsOf_ag cellsOf_i cellsOf_b cellsOf_sl cellsOf_z cellsOf_er cellsOf_nl cellsOf_np cellsOf_s mkSV_of mkRS_of fl_map fl_kill fl_frz fl_enterS fl_enterL fl_lentOf fl_toArg fl_isRs fl_toRet fl_from1 fl_from fl_cells fl_countR nums_length nums_get nums_set nums_append nums_snoc nums_drop nums_take nums_zrep nums_hasSl bools_length bools_get bools_set bools_snoc bools_zrep bools_hasSl vecs_length vecs_get vecs_snoc slcV_sl idxO idx Nat.zero_add Nat.mul_one Nat.add_zero stepsAt_some onSome_some onB_true onB_false onG_tt onG_tf onG_ft onG_ff onG_un optPut_some optMem_some
attribute [local simp] sees_nil sees_rf sees_i sees_sl sees_z sees_rs sees_fl

/-- The first bytes of nothing's sum. -/
theorem nothing3 : (outL 136 (padS 136 6 (zL 25, 0)) 3) = [167, 255, 198] := by kernel_rfl
theorem nothing_at : ni (outL 136 (padS 136 6 (zL 25, 0)) 32) 0 = 167 ∧ ni (outL 136 (padS 136 6 (zL 25, 0)) 32) 1 = 255 ∧ ni (outL 136 (padS 136 6 (zL 25, 0)) 32) 2 = 198 := by
  have e : ∀ j, j < 3 → ni (outL 136 (padS 136 6 (zL 25, 0)) 32) j = ni (outL 136 (padS 136 6 (zL 25, 0)) 3) j := fun j hj => by
    unfold outL
    rw [ni_map (by omega), ni_map hj]
  rw [e 0 (by omega), e 1 (by omega), e 2 (by omega), nothing3]
  exact ⟨rfl, rfl, rfl⟩
theorem first5 : FF tab 13 [] = some ⟨.b true, []⟩ := by
  refine call_by (A := A13) rfl rfl ?_
  have h := sSum256 (x := .z) (L := []) (.none .u8) ⟨(by intro y hy; cases hy), by simp⟩
  rw [takeL_nil] at h
  obtain ⟨e0, e1, e2⟩ := nothing_at
  have hl := outL_len 136 (padS 136 6 (zL 25, 0)) 32
  have g0 := nums_get (k := .u8) (L := outL 136 (padS 136 6 (zL 25, 0)) 32) (j := 0) (by omega)
  have g1 := nums_get (k := .u8) (L := outL 136 (padS 136 6 (zL 25, 0)) 32) (j := 1) (by omega)
  have g2 := nums_get (k := .u8) (L := outL 136 (padS 136 6 (zL 25, 0)) 32) (j := 2) (by omega)
  have hn := nums_length .u8 (outL 136 (padS 136 6 (zL 25, 0)) 32)
  rw [hl] at hn
  rw [e0] at g0
  rw [e1] at g1
  rw [e2] at g2
  generalize nums .u8 (outL 136 (padS 136 6 (zL 25, 0)) 32) = O at *
  simp (disch := first | assumption | omega | (simp only [List.length_cons, List.length_nil, List.length_set, List.length_append, List.length_replicate, List.length_map, List.length_range, List.length_take, List.length_drop, nums_length, bools_length, vecs_length]; first | done | omega)) [A13, h, g0, g1, g2]

theorem ptr_rf (d o : Nat) : binV .ptr .eql (.rf d o) .np = some (.b false) := rfl
theorem outL_take (R : Nat) (S : List Ln × Nat) {n m : Nat} (h : n ≤ m) : (outL R S m).take n = outL R S n := by
  have e : m = n + (m - n) := by omega
  rw [e, outL_add, List.take_append_of_le_length (by rw [outL_len]; omega), List.take_of_length_le (by rw [outL_len]; omega)]

set_option maxHeartbeats 8000000 in
theorem ShakeEdges (n0 : Int) (hn0 : inK .i64 n0) (o0 : Int) (ho0 : inK .i64 o0) (b : Int) (hb : inK .u8 b) : FF tab 6 [.i .i64 n0, .i .i64 o0, .i .u8 b] = some ⟨.b true, []⟩ := by
  refine call_by (A := A6) rfl rfl ?_
  have h1 := first5
  have hN1 := Number n0 5 (by omega) (by omega)
  have hN2 := Number o0 5 (by omega) (by omega)
  obtain ⟨N, hN⟩ : ∃ N : Nat, (N : Int) = n0 % 5 + 134 := ⟨(n0 % 5 + 134).toNat, by omega⟩
  obtain ⟨O, hO⟩ : ∃ O : Nat, (O : Int) = o0 % 5 + 134 := ⟨(o0 % 5 + 134).toNat, by omega⟩
  have bN : 134 ≤ N ∧ N ≤ 138 := by omega
  have bO : 134 ≤ O ∧ O ≤ 138 := by omega
  have wN : IntKind.i64.wrap (n0 % 5 + 134) = (N : Int) := by rw [← hN]; exact i64_in _ (by omega)
  have wO : IntKind.i64.wrap (o0 % 5 + 134) = (O : Int) := by rw [← hO]; exact i64_in _ (by omega)
  have tN : (N : Int).toNat = N := Int.toNat_natCast _
  let V : Nat → Int := fun i => IntKind.u8.wrap (b + IntKind.u8.wrap i)
  have hVb : ∀ k, inK .u8 (V k) := fun k => by
    have e : V k = (b + IntKind.u8.wrap k) % 256 := rfl
    show (0 : Int) ≤ V k ∧ V k ≤ 255
    rw [e]; omega
  have hnew := sNew (R := 136) (by omega) (by omega) (by omega) (X := 6) (by omega) (by omega)
  rw [show ((136 : Nat) : Int) = 136 from rfl] at hnew
  have hz := fillTo_zero V N
  have hZ : (zL 25).length = 25 := zL_len 25
  have zr : (nums .u8 (List.replicate N 0)) = zrep [.i .u8 0] N := by
    simp [nums, zrep]
  simp (disch := first | assumption | omega | (simp only [List.length_cons, List.length_nil, List.length_set, List.length_append, List.length_replicate, List.length_map, List.length_range, List.length_take, List.length_drop, nums_length, bools_length, vecs_length]; first | done | omega)) [A6, h1, hN1, hN2, wN, wO, tN, hnew, ptr_rf]
  refine w_heads N (fun k => ⟨[(11, .i .i64 k), (9, .rf 1034 0), (8, .rs 32 0 N 1), (7, .b true), (2, .i .u8 b), (1, .i .i64 O), (0, .i .i64 N)], [(1034, spC (takeL 136 (zL 25, 0) ((List.range k).map V)).1 136 6 (takeL 136 (zL 25, 0) ((List.range k).map V)).2 false), (32, nums .u8 (fillTo V N k))]⟩) (by rw [hz]; simp (disch := first | assumption | omega | (simp only [List.length_cons, List.length_nil, List.length_set, List.length_append, List.length_replicate, List.length_map, List.length_range, List.length_take, List.length_drop, nums_length, bools_length, vecs_length]; first | done | omega)) [takeL_nil]) ?_ ?_
  · intro k hk
    have wk : IntKind.i64.wrap ((k : Int) + 1) = (k : Int) + 1 := i64_in _ (by omega)
    have hkn : (k : Int).toNat = k := Int.toNat_natCast _
    have hkn1 : ((k : Int) + 1).toNat = k + 1 := by omega
    have hkL : (k : Int) < (N : Int) := by omega
    have sl1 := slcV_rs (sz := 1) (d := 32) (off := 0) (n := N) (x := (k : Int)) (y := (k : Int) + 1) (l := k) (h := k + 1) rfl (by omega) (by omega) (by omega) (by omega)
    rw [show 0 + k * 1 = k by omega, show k + 1 - k = 1 by omega] at sl1
    have hset := fillTo_set V hk
    have hfl := fillTo_len V N k
    have hfl1 := fillTo_len V N (k + 1)
    have hV : V k = IntKind.u8.wrap (b + IntKind.u8.wrap (k : Int)) := rfl
    have hdt : ((fillTo V N (k + 1)).drop k).take 1 = [V k] := by
      unfold fillTo
      rw [← List.map_drop, ← List.map_take]
      have : ((List.range N).drop k).take 1 = [k] := by
        rw [List.drop_eq_getElem_cons (by simpa using hk)]; simp
      rw [this]; simp
    have hs : takeL 136 (zL 25, 0) ((List.range (k + 1)).map V) = takeL 136 (takeL 136 (zL 25, 0) ((List.range k).map V)) [V k] := by
      rw [List.range_succ, List.map_append, takeL_app]; rfl
    obtain ⟨a1, a2⟩ := takeL_ok (R := 136) ((List.range k).map V) (S := (zL 25, 0)) hZ (by omega)
    rw [hs]
    generalize takeL 136 (zL 25, 0) ((List.range k).map V) = S at *
    obtain ⟨B, q⟩ := S
    simp only at a1 a2 ⊢
    have hT := sAbsorb a1 (R := 136) (by omega) a2 6 (.mk .u8 [V k]) ⟨(by intro y hy; rcases List.mem_cons.1 hy with rfl | hy; exact hVb k; cases hy), by simp⟩
    simp only [slv, List.length_cons, List.length_nil, Nat.zero_add] at hT
    have ll := spC_len (r := 136) (x := 6) (p := (q : Int)) (s := false) a1
    have hsl := fun (A : List Ln) (p : Int) => spC_hasSl (r := 136) (x := 6) (p := p) (s := false) A
    rw [show ((136 : Nat) : Int) = 136 from rfl] at hT
    generalize takeL 136 (B, q) [V k] = S1 at *
    clear hs hVb hnew h1 hN1 hN2 hz zr
    rw [hV] at hset
    generalize fillTo V N (k + 1) = F1 at *
    generalize fillTo V N k = F at *
    generalize V k = Vk at *
    generalize hT' : (k : Int) = T at *
    simp (disch := first | assumption | omega | (simp only [List.length_cons, List.length_nil, List.length_set, List.length_append, List.length_replicate, List.length_map, List.length_range, List.length_take, List.length_drop, nums_length, bools_length, vecs_length]; first | done | omega)) [hkL, hkn, hkn1, sl1, hdt, wk, hT, hT', nums_set, hset, hsl]
  · obtain ⟨a1, a2⟩ := takeL_ok (R := 136) ((List.range N).map V) (S := (zL 25, 0)) hZ (by omega)
    have hA := sAbsorb hZ (R := 136) (p := 0) (by omega) (by omega) 6 (.mk .u8 ((List.range N).map V)) ⟨(by intro y hy; obtain ⟨k, _, rfl⟩ := List.mem_map.1 hy; exact hVb k), by simp; omega⟩
    have hSu := sSum256 (.mk .u8 ((List.range N).map V)) ⟨(by intro y hy; obtain ⟨k, _, rfl⟩ := List.mem_map.1 hy; exact hVb k), by simp; omega⟩
    have hlv : ((List.range N).map V).length = N := by simp
    simp only [slv, hlv] at hA hSu
    rw [fillTo_all]
    rw [show ((136 : Nat) : Int) = 136 from rfl, show ((0 : Nat) : Int) = 0 from rfl] at hA
    have hnv : (nums .u8 ((List.range N).map V)).length = N := by rw [nums_length, hlv]
    have hQ0 := fun n (n0 : (0 : Int) ≤ n) (n1 : n ≤ 1048576) => sSqueeze a1 (R := 136) (by omega) (by omega) a2 (X := 6) (by omega) (by omega) n0 n1
    have hpl : (padS 136 6 (takeL 136 (zL 25, 0) ((List.range N).map V))).1.length = 25 := padS_ok a1 6
    have hp2 : (padS 136 6 (takeL 136 (zL 25, 0) ((List.range N).map V))).2 ≤ 136 := Nat.zero_le _
    generalize takeL 136 (zL 25, 0) ((List.range N).map V) = S at *
    have eS : (S.1, S.2) = S := rfl
    simp only [eS] at hQ0
    generalize padS 136 6 S = P at *
    generalize (nums .u8 ((List.range N).map V)) = LV at *
    rw [show ((136 : Nat) : Int) = 136 from rfl] at hQ0
    have hsl := fun (A : List Ln) (p : Int) (s : Bool) => spC_hasSl (r := 136) (x := 6) (p := p) (s := s) A
    have hll := fun {A : List Ln} (h : A.length = 25) (p : Int) (s : Bool) => spC_len (r := 136) (x := 6) (p := p) (s := s) h
    have l0 := hll a1 S.2 false
    clear h1 hN1 hN2 hz zr hVb
    let st : Nat → List AV := fun k => if k = 0 then spC S.1 136 6 S.2 false else spC (nextN 136 P k).1 136 6 (nextN 136 P k).2 true
    have hst : ∀ k, (st k).length = 29 ∧ FF tab 29 [.op (st k), .i .i64 1] = some ⟨.tp [.os (nums .u8 [outB (outS 136 (nextN 136 P k))]) 1 1, .nl], [st (k + 1)]⟩ := fun k => by
      by_cases hk : k = 0
      · subst hk
        exact ⟨l0, hQ0 1 (by omega) (by omega)⟩
      · obtain ⟨b1, b2⟩ := nextN_ok (R := 136) (by omega) hpl hp2 k
        have e1 : st k = spC (nextN 136 P k).1 136 6 (nextN 136 P k).2 true := if_neg hk
        have e2 : st (k + 1) = spC (nextN 136 P (k + 1)).1 136 6 (nextN 136 P (k + 1)).2 true := if_neg (by omega)
        rw [e1, e2]
        refine ⟨hll b1 _ _, ?_⟩
        have := sSqueezeT b1 (R := 136) (p := (nextN 136 P k).2) (by omega) (by omega) b2 6 (n := 1) (by omega) (by omega)
        rw [show ((136 : Nat) : Int) = 136 from rfl, show ((1 : Int)).toNat = 1 from rfl, show ((nextN 136 P k).1, (nextN 136 P k).2) = nextN 136 P k from rfl, ← nextN_add] at this
        exact this
    have hst0 : st 0 = spC S.1 136 6 S.2 false := rfl
    rw [← hst0]
    generalize st = ST at *
    simp (disch := first | assumption | omega | (simp only [List.length_cons, List.length_nil, List.length_set, List.length_append, List.length_replicate, List.length_map, List.length_range, List.length_take, List.length_drop, nums_length, bools_length, vecs_length]; first | done | omega)) []
    refine w_heads O (fun k => ⟨[(13, .i .i64 k), (12, .rs 12 0 k 1), (9, .rf 1034 0), (8, .rs 32 0 N 1), (7, .b true), (1, .i .i64 O)], [(1034, ST k), (32, LV), (12, nums .u8 (outL 136 P k))]⟩) (by simp (disch := first | assumption | omega | (simp only [List.length_cons, List.length_nil, List.length_set, List.length_append, List.length_replicate, List.length_map, List.length_range, List.length_take, List.length_drop, nums_length, bools_length, vecs_length]; first | done | omega)) [outL, nums_nil]) ?_ ?_
    · intro k hk
      have wk : IntKind.i64.wrap ((k : Int) + 1) = (k : Int) + 1 := i64_in _ (by omega)
      have hkO : (k : Int) < (O : Int) := by omega
      obtain ⟨l1, hq⟩ := hst k
      have hsu := outL_succ 136 P k
      have hln := outL_len 136 P k
      clear hst hQ0 hA hSu hsl
      generalize outL 136 P (k + 1) = O1 at *
      generalize outL 136 P k = O0 at *
      generalize outB (outS 136 (nextN 136 P k)) = Y at *
      subst hsu
      generalize hT' : (k : Int) = T at *
      simp (disch := first | assumption | omega | (simp only [List.length_cons, List.length_nil, List.length_set, List.length_append, List.length_replicate, List.length_map, List.length_range, List.length_take, List.length_drop, nums_length, bools_length, vecs_length]; first | done | omega)) [hkO, hq, wk, hT', hln, nums_append]
    · have q1 := hQ0 (O : Int) (by omega) (by omega)
      rw [show ((O : Nat) : Int).toNat = O from Int.toNat_natCast _] at q1
      obtain ⟨b1, b2⟩ := nextN_ok (R := 136) (by omega) hpl hp2 O
      have q2 := sSqueezeT b1 (R := 136) (p := (nextN 136 P O).2) (by omega) (by omega) b2 6 (n := 0) (by omega) (by omega)
      rw [show ((136 : Nat) : Int) = 136 from rfl, show ((0 : Int)).toNat = 0 from rfl] at q2
      have hlo := outL_len 136 P O
      have hl32 := outL_len 136 P 32
      have s1 := SameBytes (.mk .u8 (outL 136 P O)) (.mk .u8 (outL 136 P O)) (by omega)
      have s2 := SameBytes (.mk .u8 (outL 136 P 32)) (.mk .u8 (outL 136 P 32)) (by omega)
      simp only [slv, hlo, hl32, decide_true] at s1 s2
      have ht := outL_take 136 P (show 32 ≤ O by omega)
      have hno := nums_length .u8 (outL 136 P O)
      have hld := hll hZ 0 false
      have hl2 := hll b1 ((nextN 136 P O).2 : Int) true
      have htk : LV.take N = LV := List.take_of_length_le (by omega)
      have sl2 := slcV_rs0 (sz := 1) (d := 12) (off := 0) (n := O) (y := 32) (h := 32) rfl (by omega) (by omega)
      clear hst hQ0
      generalize outL 136 P 32 = O32 at *
      generalize outL 136 P O = OO at *
      simp (disch := first | assumption | omega | (simp only [List.length_cons, List.length_nil, List.length_set, List.length_append, List.length_replicate, List.length_map, List.length_range, List.length_take, List.length_drop, nums_length, bools_length, vecs_length]; first | done | omega)) [hnew, ptr_rf, hA, q1, q2, s1, s2, hSu, ht, hlo, htk, sl2, hsl]
end Zab.YtohilcdmockfbaaDoorB
