/- Sponges: all at once; bytes that are the same. -/
import Derived.Test.YtohilcdmockfbaaDoorDSpo
namespace Zab.YtohilcdmockfbaaDoorD
open Go
open Go.IntWalk (i64_in)
set_option maxRecDepth 100000
set_option linter.unusedSimpArgs false
set_option linter.unusedVariables false
attribute [-simp] getElem?_pos
attribute [local simp ↓] W_loop W_seq W_skip W_ret W_exit W_reg W_cond W_block W_pre cleanO_some freezes_nil freezes_cons frzO_some andThen_normal andThen_ret andThen_exit unblock_normal unblock_ret unblock_exit Ends_normal Ends_ret steps_nil steps_cons step_some st_move st_pick st_bin st_un st_conv st_addr sv_ixA sv_ixS sv_fld sv_ixV st_ixStr st_ext sv_build sv_bsl sv_mkS st_mkfn sv_lenS sv_len st_mn st_mx st_nilChk st_tas st_slc sv_ldg sv_loadg sv_load st_call sv_store sv_box sv_alloc sv_mkR sv_bslR sv_nilR sv_app sv_callK stepsAt_some onSome_some onB_true onB_false onG_tt onG_tf onG_ft onG_ff onG_un optPut_some optMem_some
attribute [local simp] evalO evalL constAV get_cons get_nil put_cons put_nil look_cons look_nil putD_some clean_mk freeze_mk mapS del_cons del_nil keepS_cons keepS_nil keepL_cons keepL_nil memb_cons memb_nil unV pureV convV_i addrV toArgs anyRs hasSl2L fromRetL finR resL resV toRets one Nat.beq Nat.ble shiftV_shr shiftV_shl IntKind.bits fillV List.getElem?_cons_zero List.getElem?_cons_succ List.length_cons List.length_nil List.set_cons_zero List.set_cons_succ setR2 setR3 zrep_eqs binV_i binI_shl binI_shr binI_eqs binV_eqs binV_slcE binV_slcN lendsC_some lends_nil lends_eqs fl_lends lends_rf lendsR_some lends_rs lendsS_some seesAny_no callK1_fn callK2_some callK3_some recvPut_some afterK_some afterK_none putAll_nil putAll_cons hasSlLL_nil hasSlLL_cons recv_os recv_op recv_no recvV_some recv_tp recvT_os recvT_op srcV_rs srcR_some List.append_nil intV_quo intV_rem hasSlL mapR_eqs kill1_eqs frz1_eqs enterS_eqs enterL_eqs isRs_eqs toArg_eqs from1_eqs from_eqs toRet_eqs lentOf_eqs countR_eqs hasSl1_eqs hasSl2_eqs hasSl_eqs cellsOf_ag1 cellsOf_ag2 cellsOf_ag3 cellsOf_ag4 cellsOf_ag5 partV_2 partV_3 partV_4 partV_5 toRet_own ownR_of toArg_rs seenR_all seenR_part appS_rs appR_of srcV_sl srcV_z nilS_z bslS_some dec_t dec_f buildV_some bslV_some boxS_some root_mk ixSV_sl ixSV_rs ixAV_rf ixAV_el ixVV_ag fldV_ag lenV_sl lenV_rs lenV_z lenSV_s loadV_rf loadV_el loadR_some partV_none partV_all partV_some storeV_rf setR_one setR_all cellsOf_ag cellsOf_i cellsOf_b cellsOf_sl cellsOf_z cellsOf_er cellsOf_nl cellsOf_np cellsOf_s mkSV_of mkRS_of fl_map fl_kill fl_frz fl_enterS fl_enterL fl_lentOf fl_toArg fl_isRs fl_toRet fl_from1 fl_from fl_cells fl_countR nums_length nums_get nums_set nums_append nums_snoc nums_drop nums_take nums_zrep nums_hasSl bools_length bools_get bools_set bools_snoc bools_zrep bools_hasSl vecs_length vecs_get vecs_snoc slcV_sl idxO idx Nat.zero_add Nat.mul_one Nat.add_zero stepsAt_some onSome_some onB_true onB_false onG_tt onG_tf onG_ft onG_ff onG_un optPut_some optMem_some
attribute [local simp] sees_nil sees_rf sees_i sees_sl sees_z sees_rs sees_fl

theorem nj_ext {L M : List Int} (h1 : L.length = M.length) (h : ∀ j, j < L.length → ni L j = ni M j) : L = M := by
  apply List.ext_getElem h1
  intro j p q
  have := h j p
  rwa [ni_get p, ni_get q] at this
theorem SameBytes {x y : AV} {L M : List Int} (hx : IsL .u8 x L) (hy : IsL .u8 y M) (hs : L.length < 9223372036854775807) : FF tab 17 [x, y] = some ⟨.b (decide (L = M)), []⟩ := by
  refine call_by (A := A17) rfl rfl ?_
  have fx := hx.flat
  have fy := hy.flat
  have lx := lenV_isL hx
  have ly := lenV_isL hy
  by_cases hl : L.length = M.length
  · simp (disch := first | assumption | omega | (simp only [List.length_cons, List.length_nil, List.length_set, List.length_append, List.length_replicate, List.length_map, List.length_range, List.length_take, List.length_drop, nums_length, bools_length, vecs_length]; first | done | omega)) [A17, lx, ly, hl]
    refine w_headsP L.length (fun k => ⟨[(5, .i .i64 k), (1, y), (0, x)], []⟩) (fun k => ∀ j, j < k → ni L j = ni M j) (by simp (disch := first | assumption | omega | (simp only [List.length_cons, List.length_nil, List.length_set, List.length_append, List.length_replicate, List.length_map, List.length_range, List.length_take, List.length_drop, nums_length, bools_length, vecs_length]; first | done | omega)) []) (fun j h => by omega) ?_ ?_
    · intro k hk hp
      have w1 : IntKind.i64.wrap ((k : Int) + 1) = (k : Int) + 1 := i64_in _ (by omega)
      have hkn : (k : Int).toNat = k := Int.toNat_natCast _
      have hix := ixSV_isL hx (k' := .i64) (j := (k : Int)) (by omega) (by omega)
      have hiy := ixSV_isL hy (k' := .i64) (j := (k : Int)) (by omega) (by omega)
      rw [hkn] at hix hiy
      have hgx := nums_get (k := .u8) hk
      have hgy := nums_get (k := .u8) (L := M) (j := k) (by omega)
      have hlt : (k : Int) < (L.length : Int) := by omega
      generalize hT : (k : Int) = T at *
      by_cases he : ni L k = ni M k
      · simp (disch := first | assumption | omega | (simp only [List.length_cons, List.length_nil, List.length_set, List.length_append, List.length_replicate, List.length_map, List.length_range, List.length_take, List.length_drop, nums_length, bools_length, vecs_length]; first | done | omega)) [lx, hix, hiy, hgx, hgy, he, w1, hT]
        intro j hj
        by_cases e : j = k
        · subst e; exact he
        · exact hp j (by omega)
      · have hne : ¬ L = M := fun h => he (by rw [h])
        simp (disch := first | assumption | omega | (simp only [List.length_cons, List.length_nil, List.length_set, List.length_append, List.length_replicate, List.length_map, List.length_range, List.length_take, List.length_drop, nums_length, bools_length, vecs_length]; first | done | omega)) [lx, hix, hiy, hgx, hgy, he, hne, w1, hT]
    · intro hp
      have : L = M := nj_ext hl hp
      simp (disch := first | assumption | omega | (simp only [List.length_cons, List.length_nil, List.length_set, List.length_append, List.length_replicate, List.length_map, List.length_range, List.length_take, List.length_drop, nums_length, bools_length, vecs_length]; first | done | omega)) [lx, this]
  · have hne : ¬ L = M := fun h => hl (by rw [h])
    have hl' : ¬ (L.length : Int) = (M.length : Int) := by omega
    simp (disch := first | assumption | omega | (simp only [List.length_cons, List.length_nil, List.length_set, List.length_append, List.length_replicate, List.length_map, List.length_range, List.length_take, List.length_drop, nums_length, bools_length, vecs_length]; first | done | omega)) [A17, lx, ly, hl', hne]

/-- Bytes that a machine's slice may have. -/
structure Bys (L : List Int) : Prop where
  byte : ∀ y ∈ L, inK .u8 y
  short : L.length < 9223372036854775807

set_option maxHeartbeats 4000000 in
theorem sAll {R : Nat} (hR0 : 0 < R) (hR : R ≤ 192) {X : Int} (x0 : 0 ≤ X) (x1 : X < 256) {n : Int} (n0 : 0 ≤ n) (n1 : n ≤ 1048576) {xs : List AV} {Ls : List (List Int)} (hx : IsLs .u8 xs Ls) (hB : ∀ L ∈ Ls, Bys L) (hm : xs.length < 9223372036854775807) :
    FF tab 39 [.i .i64 R, .i .u8 X, .i .i64 n, .sl xs xs.length] = some ⟨.tp [.sl (nums .u8 (outL R (padS R X (takeL R (zL 25, 0) Ls.flatten)) n.toNat)) n.toNat, .nl], []⟩ := by
  refine call_by (A := A39) rfl rfl ?_
  have hZ : (zL 25).length = 25 := zL_len 25
  simp (disch := first | assumption | omega | (simp only [List.length_cons, List.length_nil, List.length_set, List.length_append, List.length_replicate, List.length_map, List.length_range, List.length_take, List.length_drop, nums_length, bools_length, vecs_length]; first | done | omega)) [A39]
  refine w_heads xs.length (fun k => ⟨[(19, .i .i64 k), (18, .i .i64 xs.length), (17, .sl xs xs.length), (10, .rf 16 0), (2, .i .i64 n)], [(16, spC (takeL R (zL 25, 0) (Ls.take k).flatten).1 R X (takeL R (zL 25, 0) (Ls.take k).flatten).2 false)]⟩) (by simp (disch := first | assumption | omega | (simp only [List.length_cons, List.length_nil, List.length_set, List.length_append, List.length_replicate, List.length_map, List.length_range, List.length_take, List.length_drop, nums_length, bools_length, vecs_length]; first | done | omega)) [← spC_new, takeL_nil]) ?_ ?_
  · intro k hk
    have hkL : k < Ls.length := by rw [← hx.1]; exact hk
    have hl := hx.2 k hk hkL
    have hget : xs[k]? = some xs[k] := List.getElem?_eq_getElem hk
    have w1 : IntKind.i64.wrap ((k : Int) + 1) = (k : Int) + 1 := i64_in _ (by omega)
    have hkn : (k : Int).toNat = k := Int.toNat_natCast _
    have hlt : (k : Int) < (xs.length : Int) := by omega
    have fx := hl.flat
    obtain ⟨a1, a2⟩ := takeL_ok (R := R) (Ls.take k).flatten (S := (zL 25, 0)) hZ hR0
    have hs : takeL R (zL 25, 0) (Ls.take (k + 1)).flatten = takeL R (takeL R (zL 25, 0) (Ls.take k).flatten) Ls[k] := by
      rw [List.take_succ_eq_append_getElem hkL, List.flatten_append, takeL_app]; simp
    rw [hs]
    generalize takeL R (zL 25, 0) (Ls.take k).flatten = S at *
    obtain ⟨B, q⟩ := S
    simp only at a1 a2 ⊢
    have hT := sTake a1 hR a2 X false hl (hB _ (List.getElem_mem hkL)).byte (hB _ (List.getElem_mem hkL)).short
    have ll := spC_len (r := R) (x := X) (p := (q : Int)) (s := false) a1
    generalize takeL R (B, q) Ls[k] = S1 at *
    generalize xs[k] = x at *
    clear hs hl
    generalize hT' : (k : Int) = T at *
    simp (disch := first | assumption | omega | (simp only [List.length_cons, List.length_nil, List.length_set, List.length_append, List.length_replicate, List.length_map, List.length_range, List.length_take, List.length_drop, nums_length, bools_length, vecs_length]; first | done | omega)) [hkn, hget, hT, w1, hT']
  · have e : Ls.take xs.length = Ls := by rw [hx.1]; exact List.take_length
    rw [e]
    obtain ⟨a1, a2⟩ := takeL_ok (R := R) Ls.flatten (S := (zL 25, 0)) hZ hR0
    generalize takeL R (zL 25, 0) Ls.flatten = S at *
    obtain ⟨B, q⟩ := S
    simp only at a1 a2 ⊢
    have hQ := sSqueeze a1 hR0 hR a2 x0 x1 n0 n1
    have hnl := nums_length .u8 (outL R (padS R X (B, q)) n.toNat)
    generalize outL R (padS R X (B, q)) n.toNat = O at *
    generalize nextN R (padS R X (B, q)) n.toNat = N1 at *
    simp (disch := first | assumption | omega | (simp only [List.length_cons, List.length_nil, List.length_set, List.length_append, List.length_replicate, List.length_map, List.length_range, List.length_take, List.length_drop, nums_length, bools_length, vecs_length]; first | done | omega)) [hQ]

theorem sSum256 {x : AV} {L : List Int} (hx : IsL .u8 x L) (hB : Bys L) : FF tab 20 [x] = some ⟨.sl (nums .u8 (outL 136 (padS 136 6 (takeL 136 (zL 25, 0) L)) 32)) 32, []⟩ := by
  refine call_by (A := A20) rfl rfl ?_
  have fx := hx.flat
  have h := sAll (R := 136) (by omega) (by omega) (X := 6) (by omega) (by omega) (n := 32) (by omega) (by omega) (IsLs.one hx) (by intro K hK; rcases List.mem_cons.1 hK with rfl | hK; exact hB; cases hK) (by simp)
  rw [show [L].flatten = L by simp, show [x].length = 1 from rfl, show (32 : Int).toNat = 32 from rfl, show ((136 : Nat) : Int) = 136 from rfl] at h
  generalize outL 136 (padS 136 6 (takeL 136 (zL 25, 0) L)) 32 = O at *
  simp (disch := first | assumption | omega | (simp only [List.length_cons, List.length_nil, List.length_set, List.length_append, List.length_replicate, List.length_map, List.length_range, List.length_take, List.length_drop, nums_length, bools_length, vecs_length]; first | done | omega)) [A20, h]
end Zab.YtohilcdmockfbaaDoorD
