/- The statements of chapter 5: parts. -/
import Derived.Test.YtohilcdmockfbaaDoorSpo3
import Derived.Test.YtohilcdmockfbaaDoorSee
namespace Zab.YtohilcdmockfbaaDoor
open Go
open Go.IntWalk (i64_in)
set_option maxRecDepth 100000
set_option linter.unusedSimpArgs false
set_option linter.unusedVariables false
attribute [-simp] getElem?_pos
attribute [local simp ↓] W_loop W_seq W_skip W_ret W_exit W_reg W_cond W_block W_pre cleanO_some freezes_nil freezes_cons frzO_some andThen_normal andThen_ret andThen_exit unblock_normal unblock_ret unblock_exit Ends_normal Ends_ret steps_nil steps_cons step_some st_move st_pick st_bin st_un st_conv st_addr sv_ixA sv_ixS sv_fld sv_ixV st_ixStr st_ext sv_build sv_bsl sv_mkS st_mkfn sv_lenS sv_len st_mn st_mx st_nilChk st_tas st_slc sv_ldg sv_loadg sv_load st_call sv_store sv_box sv_alloc sv_mkR sv_bslR sv_nilR sv_app sv_callK stepsAt_some onSome_some onB_true onB_false onG_tt onG_tf onG_ft onG_ff onG_un optPut_some optMem_some
attribute [local simp] evalO evalL constAV get_cons get_nil put_cons put_nil look_cons look_nil putD_some clean_mk freeze_mk mapS del_cons del_nil keepS_cons keepS_nil keepL_cons keepL_nil memb_cons memb_nil unV pureV convV_i addrV toArgs anyRs hasSl2L fromRetL finR resL resV toRets one Nat.beq Nat.ble shiftV_shr shiftV_shl IntKind.bits fillV List.getElem?_cons_zero List.getElem?_cons_succ List.length_cons List.length_nil List.set_cons_zero List.set_cons_succ setR2 setR3 zrep_eqs binV_i binI_shl binI_shr binI_eqs binV_eqs binV_slcE binV_slcN lendsC_some lends_nil lends_eqs fl_lends lends_rf lendsR_some lends_rs lendsS_some seesAny_no callK1_fn callK2_some callK3_some recvPut_some afterK_some afterK_none putAll_nil putAll_cons hasSlLL_nil hasSlLL_cons recv_os recv_op recv_no recvV_some recv_tp recvT_os recvT_op srcV_rs srcR_some List.append_nil intV_quo intV_rem hasSlL mapR_eqs kill1_eqs frz1_eqs enterS_eqs enterL_eqs isRs_eqs toArg_eqs from1_eqs from_eqs toRet_eqs lentOf_eqs countR_eqs hasSl1_eqs hasSl2_eqs hasSl_eqs cellsOf_ag1 cellsOf_ag2 cellsOf_ag3 cellsOf_ag4 cellsOf_ag5 partV_2 partV_3 partV_4 partV_5 toRet_own ownR_of toArg_rs seenR_all seenR_part appS_rs appR_of srcV_sl srcV_z nilS_z bslS_some dec_t dec_f buildV_some bslV_some boxS_some root_mk ixSV_sl ixSV_rs ixAV_rf ixAV_el ixVV_ag fldV_ag lenV_sl lenV_rs lenV_z lenSV_s loadV_rf loadV_el loadR_some partV_none partV_all partV_some storeV_rf setR_one setR_all cellsOf_ag cellsOf_i cellsOf_b cellsOf_sl cellsOf_z cellsOf_er cellsOf_nl cellsOf_np cellsOf_s mkSV_of mkRS_of fl_map fl_kill fl_frz fl_enterS fl_enterL fl_lentOf fl_toArg fl_isRs fl_toRet fl_from1 fl_from fl_cells fl_countR nums_length nums_get nums_set nums_append nums_snoc nums_drop nums_take nums_zrep nums_hasSl bools_length bools_get bools_set bools_snoc bools_zrep bools_hasSl vecs_length vecs_get vecs_snoc slcV_sl idxO idx Nat.zero_add Nat.mul_one Nat.add_zero stepsAt_some onSome_some onB_true onB_false onG_tt onG_tf onG_ft onG_ff onG_un optPut_some optMem_some
attribute [local simp] sees_nil sees_rf sees_i sees_sl sees_z sees_rs sees_fl

theorem slc_cut {x : AV} {L : List Int} (hx : IsL .u8 x L) {c : Nat} (hc : c ≤ L.length) : ∃ xa xb, slcV 1 x none (some (.i .i64 (c : Int))) none = some xa ∧ IsL .u8 xa (L.take c) ∧ slcV 1 x (some (.i .i64 (c : Int))) none none = some xb ∧ IsL .u8 xb (L.drop c) := by
  have e2 : idx (.i .i64 (c : Int)) = some c := by simp [idx]
  rcases hx with rfl | ⟨rfl, rfl⟩
  · refine ⟨slv .u8 (L.take c), slv .u8 (L.drop c), ?_, .mk .u8 _, ?_, .mk .u8 _⟩
    · have b2 : Nat.ble c L.length = true := by simpa using hc
      simp [slv, slcV, e2, b2, nums, List.map_take, Nat.min_eq_left hc]
    · have b2 : Nat.ble c L.length = true := by simpa using hc
      have b3 : Nat.ble L.length L.length = true := by simp
      have tk : List.take (L.length - c) (List.drop c (List.map (AV.i IntKind.u8) L)) = List.drop c (List.map (AV.i IntKind.u8) L) := List.take_of_length_le (by simp)
      simp [slv, slcV, e2, b2, b3, tk, nums, List.map_drop]
  · have : c = 0 := by simpa using hc
    subst this
    exact ⟨.z, .z, rfl, .none .u8, rfl, .none .u8⟩

theorem sClone {A : List Ln} (hA : A.length = 25) (R X p : Int) (s : Bool) : FF tab 32 [.op (spC A R X p s)] = some ⟨.op (spC A R X p s), [spC A R X p s]⟩ := by
  refine call_by (A := A32) rfl rfl ?_
  have ll := spC_len (r := R) (x := X) (p := p) (s := s) hA
  have pa := partV_all ll
  generalize spC A R X p s = C at *
  simp (disch := first | assumption | omega | (simp only [List.length_cons, List.length_nil, List.length_set, List.length_append, List.length_replicate, List.length_map, List.length_range, List.length_take, List.length_drop, nums_length, bools_length, vecs_length]; first | done | omega)) [A32, pa, ll]
  rfl

theorem fBytes {x : AV} {L : List Int} (hx : IsL .u8 x L) (hs : L.length ≤ 100000) : FF tab 33 [x] = some ⟨.os (nums .u8 L) L.length 1, []⟩ := by
  refine call_by (A := A33) rfl rfl ?_
  have fx := hx.flat
  have lx := lenV_isL hx
  have zz : zrep [AV.i .u8 0] 0 = [] := rfl
  simp (disch := first | assumption | omega | (simp only [List.length_cons, List.length_nil, List.length_set, List.length_append, List.length_replicate, List.length_map, List.length_range, List.length_take, List.length_drop, nums_length, bools_length, vecs_length]; first | done | omega)) [A33, lx, zz]
  refine w_heads L.length (fun k => ⟨[(4, .i .i64 k), (3, .rs 7 0 k 1), (0, x)], [(7, nums .u8 (L.take k))]⟩) (by simp (disch := first | assumption | omega | (simp only [List.length_cons, List.length_nil, List.length_set, List.length_append, List.length_replicate, List.length_map, List.length_range, List.length_take, List.length_drop, nums_length, bools_length, vecs_length]; first | done | omega)) [nums_nil]) ?_ ?_
  · intro k hk
    have wk : IntKind.i64.wrap ((k : Int) + 1) = (k : Int) + 1 := i64_in _ (by omega)
    have hkn : (k : Int).toNat = k := Int.toNat_natCast _
    have hkL : (k : Int) < (L.length : Int) := by omega
    have ix := ixSV_isL hx (k' := .i64) (j := (k : Int)) (by omega) (by omega)
    rw [hkn] at ix
    have gx := nums_get (k := .u8) hk
    have e : L.take (k + 1) = L.take k ++ [ni L k] := by rw [List.take_succ_eq_append_getElem hk, ni_get hk]
    have hl : (L.take k).length = k := by rw [List.length_take]; omega
    rw [e]
    generalize ni L k = Y at *
    generalize L.take k = F at *
    generalize hT : (k : Int) = T at *
    simp (disch := first | assumption | omega | (simp only [List.length_cons, List.length_nil, List.length_set, List.length_append, List.length_replicate, List.length_map, List.length_range, List.length_take, List.length_drop, nums_length, bools_length, vecs_length]; first | done | omega)) [lx, hkL, ix, gx, hkn, wk, hl, hT, nums_snoc]
  · rw [List.take_length]
    have hnl := nums_length .u8 L
    generalize nums .u8 L = C at *
    simp (disch := first | assumption | omega | (simp only [List.length_cons, List.length_nil, List.length_set, List.length_append, List.length_replicate, List.length_map, List.length_range, List.length_take, List.length_drop, nums_length, bools_length, vecs_length]; first | done | omega)) [hnl, lx]

theorem sShake256 {n : Int} (n0 : 0 ≤ n) (n1 : n ≤ 1048576) {xs : List AV} {Ls : List (List Int)} (hx : IsLs .u8 xs Ls) (hB : ∀ L ∈ Ls, Bys L) (hm : xs.length < 9223372036854775807) :
    FF tab 15 [.i .i64 n, .sl xs xs.length] = some ⟨.tp [.sl (nums .u8 (outL 136 (padS 136 31 (takeL 136 (zL 25, 0) Ls.flatten)) n.toNat)) n.toNat, .nl], []⟩ := by
  refine call_by (A := A15) rfl rfl ?_
  have h := sAll (R := 136) (by omega) (by omega) (X := 31) (by omega) (by omega) n0 n1 hx hB hm
  rw [show ((136 : Nat) : Int) = 136 from rfl] at h
  generalize outL 136 (padS 136 31 (takeL 136 (zL 25, 0) Ls.flatten)) n.toNat = O at *
  simp (disch := first | assumption | omega | (simp only [List.length_cons, List.length_nil, List.length_set, List.length_append, List.length_replicate, List.length_map, List.length_range, List.length_take, List.length_drop, nums_length, bools_length, vecs_length]; first | done | omega)) [A15, h]

set_option maxHeartbeats 8000000 in
theorem ShakeParts (x : AV) (L : List Int) (hxN : IsNums .u8 x L) (c0 : Int) (hc0 : inK .i64 c0) (f0 : Int) (hf0 : inK .i64 f0) (s0 : Int) (hs0 : inK .i64 s0) : FF tab 7 [x, .i .i64 c0, .i .i64 f0, .i .i64 s0] = some ⟨.b true, []⟩ := by
  refine call_by (A := A7) rfl rfl ?_
  have hx := hxN.isL
  have fx := hx.flat
  have lx := lenV_isL hx
  have h1 := first5
  by_cases hl : (L.length : Int) ≤ 400
  · have hBL : Bys L := ⟨hxN.2, by omega⟩
    have wl : IntKind.i64.wrap ((L.length : Int) + 1) = (L.length : Int) + 1 := i64_in _ (by omega)
    have hN1 := Number c0 ((L.length : Int) + 1) (by omega) (by omega)
    have hN2 := Number f0 300 (by omega) (by omega)
    have hN3 := Number s0 300 (by omega) (by omega)
    have m1 := Int.emod_nonneg c0 (show (L.length : Int) + 1 ≠ 0 by omega)
    have m2 := Int.emod_lt_of_pos c0 (show 0 < (L.length : Int) + 1 by omega)
    obtain ⟨c, hc⟩ : ∃ c : Nat, (c : Int) = c0 % ((L.length : Int) + 1) := ⟨(c0 % ((L.length : Int) + 1)).toNat, by omega⟩
    obtain ⟨f, hf⟩ : ∃ c : Nat, (c : Int) = f0 % 300 := ⟨(f0 % 300).toNat, by omega⟩
    obtain ⟨g, hg⟩ : ∃ c : Nat, (c : Int) = s0 % 300 := ⟨(s0 % 300).toNat, by omega⟩
    rw [← hc] at hN1
    rw [← hf] at hN2
    rw [← hg] at hN3
    have hcL : c ≤ L.length := by omega
    have bf : f < 300 := by omega
    have bg : g < 300 := by omega
    clear hc hf hg m1 m2
    have wfg : IntKind.i64.wrap ((f : Int) + (g : Int)) = ((f + g : Nat) : Int) := i64_in _ (by omega)
    obtain ⟨xa, xb, sa, ha, sb, hb⟩ := slc_cut hx hcL
    have fa := ha.flat
    have fb := hb.flat
    have hBa : Bys (L.take c) := ⟨fun y hy => hBL.byte y (List.mem_of_mem_take hy), by rw [List.length_take]; omega⟩
    have hBb : Bys (L.drop c) := ⟨fun y hy => hBL.byte y (List.mem_of_mem_drop hy), by rw [List.length_drop]; omega⟩
    have hnew := sNew (R := 136) (by omega) (by omega) (by omega) (X := 31) (by omega) (by omega)
    rw [show ((136 : Nat) : Int) = 136 from rfl] at hnew
    have hZ : (zL 25).length = 25 := zL_len 25
    have g1 := sAbsorb hZ (R := 136) (p := 0) (by omega) (by omega) 31 ha hBa
    have g2 := sAbsorb hZ (R := 136) (p := 0) (by omega) (by omega) 31 hx hBL
    obtain ⟨a1, a2⟩ := takeL_ok (R := 136) (L.take c) (S := (zL 25, 0)) hZ (by omega)
    have g3 := sAbsorb a1 (R := 136) (by omega) a2 31 hb hBb
    have e3 : takeL 136 ((takeL 136 (zL 25, 0) (L.take c)).1, (takeL 136 (zL 25, 0) (L.take c)).2) (L.drop c) = takeL 136 (zL 25, 0) L := by
      rw [show ((takeL 136 (zL 25, 0) (L.take c)).1, (takeL 136 (zL 25, 0) (L.take c)).2) = takeL 136 (zL 25, 0) (L.take c) from rfl, ← takeL_app, List.take_append_drop]
    rw [e3] at g3
    have gc := sClone a1 136 31 (takeL 136 (zL 25, 0) (L.take c)).2 false
    have hW := sShake256 (n := ((f + g : Nat) : Int)) (by omega) (by omega) (IsLs.two ha hb) (by intro K hK; simp only [List.mem_cons, List.not_mem_nil, or_false] at hK; rcases hK with rfl | rfl; exact hBa; exact hBb) (by simp)
    rw [show [L.take c, L.drop c].flatten = L by simp, show [xa, xb].length = 2 from rfl, Int.toNat_natCast] at hW
    obtain ⟨b1, b2⟩ := takeL_ok (R := 136) L (S := (zL 25, 0)) hZ (by omega)
    have q1 := fun (n : Nat) (hn : n < 1000) => sSqueeze b1 (R := 136) (by omega) (by omega) b2 (X := 31) (by omega) (by omega) (n := (n : Int)) (by omega) (by omega)
    rw [show ((136 : Nat) : Int) = 136 from rfl, show ((0 : Nat) : Int) = 0 from rfl] at g1 g2
    rw [show ((136 : Nat) : Int) = 136 from rfl] at g3
    have hZl := spC_len (r := 136) (x := 31) (p := 0) (s := false) hZ
    have hAl := spC_len (r := 136) (x := 31) (p := ((takeL 136 (zL 25, 0) (L.take c)).2 : Int)) (s := false) a1
    have hSl := spC_len (r := 136) (x := 31) (p := ((takeL 136 (zL 25, 0) L).2 : Int)) (s := false) b1
    generalize takeL 136 (zL 25, 0) (L.take c) = S0 at *
    have hpl : (padS 136 31 (takeL 136 (zL 25, 0) L)).1.length = 25 := padS_ok b1 31
    have hp2 : (padS 136 31 (takeL 136 (zL 25, 0) L)).2 ≤ 136 := Nat.zero_le _
    generalize takeL 136 (zL 25, 0) L = S at *
    have eS : (S.1, S.2) = S := rfl
    simp only [eS, Int.toNat_natCast] at q1
    generalize padS 136 31 S = P at *
    rw [show ((136 : Nat) : Int) = 136 from rfl] at q1
    have qf := q1 f (by omega)
    have qg := q1 (f + g) (by omega)
    obtain ⟨c1, c2⟩ := nextN_ok (R := 136) (by omega) hpl hp2 f
    obtain ⟨d1, d2⟩ := nextN_ok (R := 136) (by omega) hpl hp2 (f + g)
    have qs := sSqueezeT c1 (R := 136) (p := (nextN 136 P f).2) (by omega) (by omega) c2 31 (n := (g : Int)) (by omega) (by omega)
    rw [show ((136 : Nat) : Int) = 136 from rfl, Int.toNat_natCast, show ((nextN 136 P f).1, (nextN 136 P f).2) = nextN 136 P f from rfl, ← nextN_add] at qs
    have qt := sAbsorbT d1 136 (nextN 136 P (f + g)).2 31 (x := .z) rfl
    rw [show ((136 : Nat) : Int) = 136 from rfl] at qt
    have hsp := outL_add 136 P f g
    have l1 := outL_len 136 P f
    have l2 := outL_len 136 P (f + g)
    have l3 := outL_len 136 (nextN 136 P f) g
    have hBy := fBytes (.mk .u8 (outL 136 P f)) (by omega)
    have sm1 := SameBytes (.mk .u8 (outL 136 P (f + g))) (.mk .u8 (outL 136 P (f + g))) (by omega)
    have sm2 := SameBytes (.mk .u8 (outL 136 P f)) (.mk .u8 (outL 136 P f)) (by omega)
    simp only [slv, l1, l2, decide_true] at hBy sm1 sm2
    have hIs := SeeIs (c := 104) (by simp [Code]) 104
    rw [show errV 104 = .er 1 from rfl] at hIs
    have n1l := spC_len (r := 136) (x := 31) (p := ((nextN 136 P f).2 : Int)) (s := true) c1
    have n2l := spC_len (r := 136) (x := 31) (p := ((nextN 136 P (f + g)).2 : Int)) (s := true) d1
    have hnl1 := nums_length .u8 (outL 136 P f)
    have hnl2 := nums_length .u8 (outL 136 P (f + g))
    have hnl3 := nums_length .u8 (outL 136 (nextN 136 P f) g)
    have hap : nums .u8 (outL 136 P f) ++ nums .u8 (outL 136 (nextN 136 P f) g) = nums .u8 (outL 136 P (f + g)) := by rw [nums_append, hsp]
    clear q1 hsp hx hxN hBL hBa hBb ha hb a1 a2 b1 b2 c1 c2 d1 d2 hpl hp2 e3 hZ hc0 hf0 hs0
    rw [l1] at hnl1
    rw [l3] at hnl3
    rw [l2] at hnl2
    generalize hfg : f + g = H at *
    generalize spC (zL 25) 136 31 0 false = C0 at *
    generalize spC S0.1 136 31 S0.2 false = C1 at *
    generalize spC S.1 136 31 S.2 false = C2 at *
    generalize spC (nextN 136 P f).1 136 31 (nextN 136 P f).2 true = C3 at *
    generalize spC (nextN 136 P H).1 136 31 (nextN 136 P H).2 true = C4 at *
    generalize nums .u8 (outL 136 (nextN 136 P f) g) = U1 at *
    generalize nums .u8 (outL 136 P H) = U2 at *
    generalize nums .u8 (outL 136 P f) = U3 at *
    simp (disch := first | assumption | omega | (simp only [List.length_cons, List.length_nil, List.length_set, List.length_append, List.length_replicate, List.length_map, List.length_range, List.length_take, List.length_drop, nums_length, bools_length, vecs_length]; first | done | omega)) [A7, h1, lx, hl, wl, hN1, hN2, hN3, hnew, ptr_rf, sa, sb, g1, g2, g3, gc, qf, qs, wfg, qg, hBy, hap, sm1, sm2, hW, qt, hIs, hfg]
  · simp (disch := first | assumption | omega | (simp only [List.length_cons, List.length_nil, List.length_set, List.length_append, List.length_replicate, List.length_map, List.length_range, List.length_take, List.length_drop, nums_length, bools_length, vecs_length]; first | done | omega)) [A7, h1, lx, hl]
end Zab.YtohilcdmockfbaaDoor
