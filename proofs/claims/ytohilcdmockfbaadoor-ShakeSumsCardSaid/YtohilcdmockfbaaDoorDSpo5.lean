/- The statements of chapter 5: sums. -/
import Derived.Test.YtohilcdmockfbaaDoorDSpoF
import Derived.Test.YtohilcdmockfbaaDoorDSpo3
import Derived.Test.YtohilcdmockfbaaDoorDSee
namespace Zab.YtohilcdmockfbaaDoorD
open Go
open Go.IntWalk (i64_in)
set_option maxRecDepth 100000
set_option linter.unusedSimpArgs false
set_option linter.unusedVariables false
attribute [-simp] getElem?_pos
attribute [local simp ↓] W_loop W_seq W_skip W_ret W_exit W_reg W_cond W_block W_pre cleanO_some freezes_nil freezes_cons frzO_some andThen_normal andThen_ret andThen_exit unblock_normal unblock_ret unblock_exit Ends_normal Ends_ret steps_nil steps_cons step_some st_move st_pick st_bin st_un st_conv st_addr sv_ixA sv_ixS sv_fld sv_ixV st_ixStr st_ext sv_build sv_bsl sv_mkS st_mkfn sv_lenS sv_len st_mn st_mx st_nilChk st_tas st_slc sv_ldg sv_loadg sv_load st_call sv_store sv_box sv_alloc sv_mkR sv_bslR sv_nilR sv_app sv_callK stepsAt_some onSome_some onB_true onB_false onG_tt onG_tf onG_ft onG_ff onG_un optPut_some optMem_some
attribute [local simp] evalO evalL constAV get_cons get_nil put_cons put_nil look_cons look_nil putD_some clean_mk freeze_mk mapS del_cons del_nil keepS_cons keepS_nil keepL_cons keepL_nil memb_cons memb_nil unV pureV convV_i addrV toArgs anyRs hasSl2L fromRetL finR resL resV toRets one Nat.beq Nat.ble shiftV_shr shiftV_shl IntKind.bits fillV List.getElem?_cons_zero List.getElem?_cons_succ List.length_cons List.length_nil List.set_cons_zero List.set_cons_succ setR2 setR3 zrep_eqs binV_i binI_shl binI_shr binI_eqs binV_eqs binV_slcE binV_slcN lendsC_some lends_nil lends_eqs fl_lends lends_rf lendsR_some lends_rs lendsS_some seesAny_no callK1_fn callK2_some callK3_some recvPut_some afterK_some afterK_none putAll_nil putAll_cons hasSlLL_nil hasSlLL_cons recv_os recv_op recv_no recvV_some recv_tp recvT_os recvT_op srcV_rs srcR_some List.append_nil intV_quo intV_rem hasSlL mapR_eqs kill1_eqs frz1_eqs enterS_eqs enterL_eqs isRs_eqs toArg_eqs from1_eqs from_eqs toRet_eqs lentOf_eqs countR_eqs hasSl1_eqs hasSl2_eqs hasSl_eqs cellsOf_ag1 cellsOf_ag2 cellsOf_ag3 cellsOf_ag4 cellsOf_ag5 partV_2 partV_3 partV_4 partV_5 toRet_own ownR_of toArg_rs seenR_all seenR_part appS_rs appR_of srcV_sl srcV_z nilS_z bslS_some dec_t dec_f buildV_some bslV_some boxS_some root_mk ixSV_sl ixSV_rs ixAV_rf ixAV_el ixVV_ag fldV_ag lenV_sl lenV_rs lenV_z lenSV_s loadV_rf loadV_el loadR_some partV_none partV_all partV_some storeV_rf setR_one setR_all cellsOf_ag cellsOf_i cellsOf_b cellsOf_sl cellsOf_z cellsOf_er cellsOf_nl cellsOf_np cellsOf_s mkSV_of mkRS_of fl_map fl_kill fl_frz fl_enterS fl_enterL fl_lentOf fl_toArg fl_isRs fl_toRet fl_from1 fl_from fl_cells fl_countR nums_length nums_get nums_set nums_append nums_snoc nums_drop nums_take nums_zrep nums_hasSl bools_length bools_get bools_set bools_snoc bools_zrep bools_hasSl vecs_length vecs_get vecs_snoc slcV_sl idxO idx Nat.zero_add Nat.mul_one Nat.add_zero stepsAt_some onSome_some onB_true onB_false onG_tt onG_tf onG_ft onG_ff onG_un optPut_some optMem_some
attribute [local simp] sees_nil sees_rf sees_i sees_sl sees_z sees_rs sees_fl

/-- Lists of bytes, as a slice or as none. -/
structure IsV (x : AV) (xs : List AV) (Ls : List (List Int)) : Prop where
  ex : x = .sl xs xs.length ∨ (x = .z ∧ xs = [])
  ls : IsLs .u8 xs Ls
section
variable {x : AV} {xs : List AV} {Ls : List (List Int)}
theorem IsV.flat (h : IsV x xs Ls) : x.flat = true := by rcases h.ex with rfl | ⟨rfl, _⟩ <;> rfl
theorem IsV.len (h : IsV x xs Ls) : lenV x = some (.i .i64 xs.length) := by rcases h.ex with rfl | ⟨rfl, rfl⟩ <;> rfl
theorem IsV.ix (h : IsV x xs Ls) {k : Nat} (hk : k < xs.length) : ixSV 1 x (.i .i64 (k : Int)) = some (.el xs k) := by
  rcases h.ex with rfl | ⟨rfl, rfl⟩
  · have b1 : Nat.blt k xs.length = true := by simpa using hk
    simp [ixSV, b1, hk]
  · simp at hk
end
theorem sBad {A : List Ln} (R : Int) (p : Nat) (X : Int) (s : Bool) {n : Int} (hn : n < 0 ∨ 1048576 < n) :
    FF tab 29 [.op (spC A R X p s), .i .i64 n] = some ⟨.tp [.z, .er 0], [spC A R X p s]⟩ := by
  refine call_by (A := A29) rfl rfl ?_
  have lo : lentOf [(0, spC A R X p s)] 0 [.op (spC A R X p s), .i .i64 n] = some [spC A R X p s] := rfl
  by_cases h0 : n < 0
  · simp (disch := first | assumption | omega | (simp only [List.length_cons, List.length_nil, List.length_set, List.length_append, List.length_replicate, List.length_map, List.length_range, List.length_take, List.length_drop, nums_length, bools_length, vecs_length]; first | done | omega)) [A29, h0, lo]
  · have h1 : 1048576 < n := by omega
    simp (disch := first | assumption | omega | (simp only [List.length_cons, List.length_nil, List.length_set, List.length_append, List.length_replicate, List.length_map, List.length_range, List.length_take, List.length_drop, nums_length, bools_length, vecs_length]; first | done | omega)) [A29, h0, h1, lo]
set_option maxHeartbeats 4000000 in
theorem sAllV {R : Nat} (hR0 : 0 < R) (hR : R ≤ 192) {X : Int} (x0 : 0 ≤ X) (x1 : X < 256) (n : Int) {x : AV} {xs : List AV} {Ls : List (List Int)} (hv : IsV x xs Ls) (hB : ∀ L ∈ Ls, Bys L) (hm : xs.length < 9223372036854775807) :
    FF tab 39 [.i .i64 R, .i .u8 X, .i .i64 n, x] = some ⟨if n < 0 ∨ 1048576 < n then .tp [.z, .er 0] else .tp [.sl (nums .u8 (outL R (padS R X (takeL R (zL 25, 0) Ls.flatten)) n.toNat)) n.toNat, .nl], []⟩ := by
  refine call_by (A := A39) rfl rfl ?_
  have hx := hv.ls
  have fv := hv.flat
  have lv := hv.len
  have hZ : (zL 25).length = 25 := zL_len 25
  simp (disch := first | assumption | omega | (simp only [List.length_cons, List.length_nil, List.length_set, List.length_append, List.length_replicate, List.length_map, List.length_range, List.length_take, List.length_drop, nums_length, bools_length, vecs_length]; first | done | omega)) [A39, lv]
  refine w_heads xs.length (fun k => ⟨[(19, .i .i64 k), (18, .i .i64 xs.length), (17, x), (10, .rf 16 0), (2, .i .i64 n)], [(16, spC (takeL R (zL 25, 0) (Ls.take k).flatten).1 R X (takeL R (zL 25, 0) (Ls.take k).flatten).2 false)]⟩) (by simp (disch := first | assumption | omega | (simp only [List.length_cons, List.length_nil, List.length_set, List.length_append, List.length_replicate, List.length_map, List.length_range, List.length_take, List.length_drop, nums_length, bools_length, vecs_length]; first | done | omega)) [← spC_new, takeL_nil]) ?_ ?_
  · intro k hk
    have hkL : k < Ls.length := by rw [← hx.1]; exact hk
    have hl := hx.2 k hk hkL
    have hix := hv.ix hk
    have hget : xs[k]? = some xs[k] := List.getElem?_eq_getElem hk
    have w1 : IntKind.i64.wrap ((k : Int) + 1) = (k : Int) + 1 := i64_in _ (by omega)
    have hlt : (k : Int) < (xs.length : Int) := by omega
    have fx := hl.flat
    obtain ⟨a1, a2⟩ := takeL_ok (R := R) (Ls.take k).flatten (S := (zL 25, 0)) hZ hR0
    have hs : takeL R (zL 25, 0) (Ls.take (k + 1)).flatten = takeL R (takeL R (zL 25, 0) (Ls.take k).flatten) Ls[k] := by
      rw [List.take_succ_eq_append_getElem hkL, List.flatten_append, takeL_app]; simp
    rw [hs]
    generalize takeL R (zL 25, 0) (Ls.take k).flatten = S at *
    obtain ⟨B, q⟩ := S
    simp only at a1 a2 ⊢
    have hT := sTake a1 hR a2 X false hl (hB _ (List.getElem_mem hkL)).byte (hB _ (List.getElem_mem hkL)).short
    have ll := spC_len (r := R) (x := X) (p := (q : Int)) (s := false) a1
    generalize takeL R (B, q) Ls[k] = S1 at *
    generalize xs[k] = x at *
    clear hs hl hx hv
    generalize hT' : (k : Int) = T at *
    simp (disch := first | assumption | omega | (simp only [List.length_cons, List.length_nil, List.length_set, List.length_append, List.length_replicate, List.length_map, List.length_range, List.length_take, List.length_drop, nums_length, bools_length, vecs_length]; first | done | omega)) [hix, hget, hT, w1, hT']
  · have e : Ls.take xs.length = Ls := by rw [hx.1]; exact List.take_length
    rw [e]
    obtain ⟨a1, a2⟩ := takeL_ok (R := R) Ls.flatten (S := (zL 25, 0)) hZ hR0
    generalize takeL R (zL 25, 0) Ls.flatten = S at *
    obtain ⟨B, q⟩ := S
    simp only at a1 a2 ⊢
    by_cases hn : n < 0 ∨ 1048576 < n
    · rw [if_pos hn]
      have hQ := sBad (A := B) R q X false hn
      clear hn
      simp (disch := first | assumption | omega | (simp only [List.length_cons, List.length_nil, List.length_set, List.length_append, List.length_replicate, List.length_map, List.length_range, List.length_take, List.length_drop, nums_length, bools_length, vecs_length]; first | done | omega)) [hQ]
    · rw [if_neg hn]
      have hQ := sSqueeze a1 hR0 hR a2 x0 x1 (n := n) (by omega) (by omega)
      have hnl := nums_length .u8 (outL R (padS R X (B, q)) n.toNat)
      generalize outL R (padS R X (B, q)) n.toNat = O at *
      generalize nextN R (padS R X (B, q)) n.toNat = N1 at *
      simp (disch := first | assumption | omega | (simp only [List.length_cons, List.length_nil, List.length_set, List.length_append, List.length_replicate, List.length_map, List.length_range, List.length_take, List.length_drop, nums_length, bools_length, vecs_length]; first | done | omega)) [hQ]
theorem dNew (R X : Int) : FF tab 26 [.i .i64 R, .i .u8 X] = some ⟨.op (spD (zL 25) R X 0 false), []⟩ := by
  rw [← spD_new]
  refine call_by (A := A26) rfl rfl ?_
  simp (disch := first | assumption | omega | (simp only [List.length_cons, List.length_nil, List.length_set, List.length_append, List.length_replicate, List.length_map, List.length_range, List.length_take, List.length_drop, nums_length, bools_length, vecs_length]; first | done | omega)) [A26]
  rfl
set_option maxHeartbeats 4000000 in
theorem dSome {R : Nat} (hR0 : 0 < R) (hR : R ≤ 192) {X : Int} (x0 : 0 ≤ X) (x1 : X < 256) {n : Int} (n0 : 0 ≤ n) (n1 : n ≤ 1048576) {x : AV} {xs : List AV} {Ls : List (List Int)} (hv : IsV x xs Ls) (hB : ∀ L ∈ Ls, Bys L) (hm : xs.length < 9223372036854775807) :
    FF tab 42 [.i .i64 R, .i .u8 X, .i .i64 n, x] = some ⟨.sl (nums .u8 (outL R (padS R X (takeL R (zL 25, 0) Ls.flatten)) n.toNat)) n.toNat, []⟩ := by
  refine call_by (A := A42) rfl rfl ?_
  have hx := hv.ls
  have fv := hv.flat
  have lv := hv.len
  have hZ : (zL 25).length = 25 := zL_len 25
  have hN := dNew R X
  simp (disch := first | assumption | omega | (simp only [List.length_cons, List.length_nil, List.length_set, List.length_append, List.length_replicate, List.length_map, List.length_range, List.length_take, List.length_drop, nums_length, bools_length, vecs_length]; first | done | omega)) [A42, hN]
  refine w_heads xs.length (fun k => ⟨[(10, .i .i64 k), (9, .rf 15 0), (3, x), (2, .i .i64 n)], [(15, spD (takeL R (zL 25, 0) (Ls.take k).flatten).1 R X (takeL R (zL 25, 0) (Ls.take k).flatten).2 false)]⟩) (by simp (disch := first | assumption | omega | (simp only [List.length_cons, List.length_nil, List.length_set, List.length_append, List.length_replicate, List.length_map, List.length_range, List.length_take, List.length_drop, nums_length, bools_length, vecs_length]; first | done | omega)) [takeL_nil]) ?_ ?_
  · intro k hk
    have hkL : k < Ls.length := by rw [← hx.1]; exact hk
    have hl := hx.2 k hk hkL
    have hix := hv.ix hk
    have hget : xs[k]? = some xs[k] := List.getElem?_eq_getElem hk
    have w1 : IntKind.i64.wrap ((k : Int) + 1) = (k : Int) + 1 := i64_in _ (by omega)
    have hlt : (k : Int) < (xs.length : Int) := by omega
    have fx := hl.flat
    obtain ⟨a1, a2⟩ := takeL_ok (R := R) (Ls.take k).flatten (S := (zL 25, 0)) hZ hR0
    have hs : takeL R (zL 25, 0) (Ls.take (k + 1)).flatten = takeL R (takeL R (zL 25, 0) (Ls.take k).flatten) Ls[k] := by
      rw [List.take_succ_eq_append_getElem hkL, List.flatten_append, takeL_app]; simp
    rw [hs]
    generalize takeL R (zL 25, 0) (Ls.take k).flatten = S at *
    obtain ⟨B, q⟩ := S
    simp only at a1 a2 ⊢
    have hT := dAbsorb a1 hR a2 X hl (hB _ (List.getElem_mem hkL))
    have ll := spD_len (r := R) (x := X) (p := (q : Int)) (s := false) a1
    generalize takeL R (B, q) Ls[k] = S1 at *
    generalize xs[k] = x at *
    clear hs hl hx hv
    generalize hT' : (k : Int) = T at *
    simp (disch := first | assumption | omega | (simp only [List.length_cons, List.length_nil, List.length_set, List.length_append, List.length_replicate, List.length_map, List.length_range, List.length_take, List.length_drop, nums_length, bools_length, vecs_length]; first | done | omega)) [lv, hix, hget, hT, w1, hT']
  · have e : Ls.take xs.length = Ls := by rw [hx.1]; exact List.take_length
    rw [e]
    obtain ⟨a1, a2⟩ := takeL_ok (R := R) Ls.flatten (S := (zL 25, 0)) hZ hR0
    generalize takeL R (zL 25, 0) Ls.flatten = S at *
    obtain ⟨B, q⟩ := S
    simp only at a1 a2 ⊢
    have hQ := dSqueeze a1 hR0 hR a2 x0 x1 n0 n1
    generalize outL R (padS R X (B, q)) n.toNat = O at *
    generalize nextN R (padS R X (B, q)) n.toNat = N1 at *
    simp (disch := first | assumption | omega | (simp only [List.length_cons, List.length_nil, List.length_set, List.length_append, List.length_replicate, List.length_map, List.length_range, List.length_take, List.length_drop, nums_length, bools_length, vecs_length]; first | done | omega)) [lv, hQ]
theorem IsV.one {y : AV} {L : List Int} (h : IsL .u8 y L) : IsV (.sl [y] 1) [y] [L] := ⟨.inl rfl, .one h⟩
theorem one_bys {L : List Int} (h : Bys L) : ∀ K ∈ [L], Bys K := by intro K hK; rcases List.mem_cons.1 hK with rfl | hK; exact h; cases hK
theorem sSum512 {x : AV} {L : List Int} (hx : IsL .u8 x L) (hB : Bys L) : FF tab 22 [x] = some ⟨.sl (nums .u8 (outL 72 (padS 72 6 (takeL 72 (zL 25, 0) L)) 64)) 64, []⟩ := by
  refine call_by (A := A22) rfl rfl ?_
  have fx := hx.flat
  have h := sAll (R := 72) (by omega) (by omega) (X := 6) (by omega) (by omega) (n := 64) (by omega) (by omega) (IsLs.one hx) (one_bys hB) (by simp)
  rw [show [L].flatten = L by simp, show [x].length = 1 from rfl, show (64 : Int).toNat = 64 from rfl, show ((72 : Nat) : Int) = 72 from rfl] at h
  generalize outL 72 (padS 72 6 (takeL 72 (zL 25, 0) L)) 64 = O at *
  simp (disch := first | assumption | omega | (simp only [List.length_cons, List.length_nil, List.length_set, List.length_append, List.length_replicate, List.length_map, List.length_range, List.length_take, List.length_drop, nums_length, bools_length, vecs_length]; first | done | omega)) [A22, h]
theorem dSum512 {x : AV} {L : List Int} (hx : IsL .u8 x L) (hB : Bys L) : FF tab 23 [x] = some ⟨.sl (nums .u8 (outL 72 (padS 72 6 (takeL 72 (zL 25, 0) L)) 64)) 64, []⟩ := by
  refine call_by (A := A23) rfl rfl ?_
  have fx := hx.flat
  have h := dSome (R := 72) (by omega) (by omega) (X := 6) (by omega) (by omega) (n := 64) (by omega) (by omega) (IsV.one hx) (one_bys hB) (by simp)
  rw [show [L].flatten = L by simp, show (64 : Int).toNat = 64 from rfl, show ((72 : Nat) : Int) = 72 from rfl] at h
  generalize outL 72 (padS 72 6 (takeL 72 (zL 25, 0) L)) 64 = O at *
  simp (disch := first | assumption | omega | (simp only [List.length_cons, List.length_nil, List.length_set, List.length_append, List.length_replicate, List.length_map, List.length_range, List.length_take, List.length_drop, nums_length, bools_length, vecs_length]; first | done | omega)) [A23, h]
theorem dSum256 {x : AV} {L : List Int} (hx : IsL .u8 x L) (hB : Bys L) : FF tab 21 [x] = some ⟨.sl (nums .u8 (outL 136 (padS 136 6 (takeL 136 (zL 25, 0) L)) 32)) 32, []⟩ := by
  refine call_by (A := A21) rfl rfl ?_
  have fx := hx.flat
  have h := dSome (R := 136) (by omega) (by omega) (X := 6) (by omega) (by omega) (n := 32) (by omega) (by omega) (IsV.one hx) (one_bys hB) (by simp)
  rw [show [L].flatten = L by simp, show (32 : Int).toNat = 32 from rfl, show ((136 : Nat) : Int) = 136 from rfl] at h
  generalize outL 136 (padS 136 6 (takeL 136 (zL 25, 0) L)) 32 = O at *
  simp (disch := first | assumption | omega | (simp only [List.length_cons, List.length_nil, List.length_set, List.length_append, List.length_replicate, List.length_map, List.length_range, List.length_take, List.length_drop, nums_length, bools_length, vecs_length]; first | done | omega)) [A21, h]
end Zab.YtohilcdmockfbaaDoorD
