/- A vector, there. -/
import Derived.Test.YtcebddjidpbhgaaDoorBNttR
namespace Zab.YtcebddjidpbhgaaDoorB
open Go
open Go.IntWalk (i64_in)
set_option maxRecDepth 100000
set_option linter.unusedSimpArgs false
set_option linter.unusedVariables false
attribute [-simp] getElem?_pos
attribute [local simp ↓] W_loop W_seq W_skip W_ret W_exit W_reg W_cond W_block W_pre cleanO_some freezes_nil freezes_cons frzO_some andThen_normal andThen_ret andThen_exit unblock_normal unblock_ret unblock_exit Ends_normal Ends_ret steps_nil steps_cons step_some st_move st_pick st_bin st_un st_conv st_addr sv_ixA sv_ixS sv_fld sv_ixV st_ixStr st_ext sv_build sv_bsl sv_mkS st_mkfn sv_lenS sv_len st_mn st_mx st_nilChk st_tas st_slc sv_loadg sv_load st_call sv_store sv_box sv_alloc sv_mkR sv_bslR sv_nilR sv_app sv_callK stepsAt_some onSome_some onB_true onB_false onG_tt onG_tf onG_ft onG_ff onG_un optPut_some optMem_some
attribute [local simp] evalO evalL constAV get_cons get_nil put_cons put_nil look_cons look_nil putD_some clean_mk freeze_mk mapS del_cons del_nil keepS_cons keepS_nil keepL_cons keepL_nil memb_cons memb_nil unV pureV convV_i addrV toArgs anyRs hasSl2L fromRetL finR resL resV toRets one Nat.beq Nat.ble shiftV_shr shiftV_shl IntKind.bits fillV List.getElem?_cons_zero List.getElem?_cons_succ List.length_cons List.length_nil List.set_cons_zero List.set_cons_succ setR2 setR3 zrep_eqs binV_i binI_shl binI_shr binI_eqs binV_eqs binV_slcE binV_slcN lendsC_some lends_nil lends_eqs fl_lends lends_rf lendsR_some lends_rs lendsS_some seesAny_no callK1_fn callK2_some callK3_some recvPut_some afterK_some afterK_none putAll_nil putAll_cons hasSlLL_nil hasSlLL_cons recv_os recv_op recv_no recvV_some recv_tp recvT_os recvT_op srcV_rs srcR_some List.append_nil intV_quo intV_rem hasSlL mapR_eqs kill1_eqs frz1_eqs enterS_eqs enterL_eqs isRs_eqs toArg_eqs from1_eqs from_eqs toRet_eqs lentOf_eqs countR_eqs hasSl1_eqs hasSl2_eqs hasSl_eqs cellsOf_ag1 cellsOf_ag2 cellsOf_ag3 cellsOf_ag4 cellsOf_ag5 partV_2 partV_3 partV_4 partV_5 toRet_own ownR_of toArg_rs seenR_all seenR_part appS_rs appR_of srcV_sl srcV_z nilS_z bslS_some dec_t dec_f buildV_some bslV_some boxS_some root_mk ixSV_sl ixSV_rs ixAV_rf ixAV_el ixVV_ag fldV_ag lenV_sl lenV_rs lenV_z lenSV_s loadV_rf loadV_el loadR_some partV_none partV_all partV_some storeV_rf setR_one setR_all cellsOf_ag cellsOf_i cellsOf_b cellsOf_sl cellsOf_z cellsOf_er cellsOf_nl cellsOf_np cellsOf_s mkSV_of mkRS_of fl_map fl_kill fl_frz fl_enterS fl_enterL fl_lentOf fl_toArg fl_isRs fl_toRet fl_from1 fl_from fl_cells fl_countR nums_length nums_get nums_set nums_append nums_snoc nums_drop nums_take nums_zrep nums_hasSl bools_length bools_get bools_set bools_snoc bools_zrep bools_hasSl vecs_length vecs_get vecs_snoc slcV_sl idxO idx Nat.zero_add Nat.mul_one Nat.add_zero stepsAt_some onSome_some onB_true onB_false onG_tt onG_tf onG_ft onG_ff onG_un optPut_some optMem_some

theorem sl_ne {cs : List AV} {n : Nat} (h : 0 < cs.length) : binV .slc .eql (.sl cs n) .z = some (.b false) := binV_slcE h
theorem nClone {L : List Int} (h : 0 < L.length) (h2 : L.length ≤ 100000) : FF tab 85 [.sl (nums .i64 L) L.length] = some ⟨.os (nums .i64 L) L.length 1, []⟩ := by
  refine call_by (A := A85) rfl rfl ?_
  have hl := nums_length .i64 L
  have hne := sl_ne (cs := nums .i64 L) (n := L.length) (by omega)
  have hz : zrep [AV.i .i64 0] 0 = [] := rfl
  generalize nums .i64 L = C at *
  simp (disch := first | assumption | omega | (simp only [List.length_cons, List.length_nil, List.length_set, List.length_append, List.length_replicate, List.length_map, List.length_range, List.length_take, List.length_drop, nums_length, bools_length, vecs_length]; first | done | omega)) [A85, hne, hz, hl]

/-- A vector, there. -/
noncomputable def toL (q n : Int) (L : List Int) : List Int := layL q (rt q n) (ni L) (mlen q n) (dep q n) (dep q n)
theorem toL_len {q n : Int} (hq : Right q) (hd : Deg n) (L : List Int) : (toL q n L).length = n.toNat := by
  obtain ⟨_, _, h3, _⟩ := dep_ok hq hd
  unfold toL
  rw [layL_len]; exact h3.symm
theorem layL_first {q n : Int} {L : List Int} (hq : Right q) (hd : Deg n) (hn : (L.length : Int) = n) (hm : Mods q L) : layL q (rt q n) (ni L) (mlen q n) (dep q n) 0 = L := by
  obtain ⟨_, _, h3, h4, _⟩ := dep_ok hq hd
  have hp : parts (mlen q n) (dep q n) 0 = n.toNat := by unfold parts mlen; exact h3.symm
  refine ni_extL (by rw [layL_len]; unfold mlen; omega) fun j hj => ?_
  rw [layL_len] at hj
  have hj' : j < n.toNat := by unfold mlen at hj; omega
  have := layL_at q (rt q n) (ni L) (m := mlen q n) (d := dep q n) (l := 0) (b := 0) (j := j) h4 (by omega) (by simp) (by rw [hp]; exact hj')
  rw [Nat.zero_mul, Nat.zero_add] at this
  rw [this, lay_zero]
  have a := mods_at hm (j := j) (by omega)
  exact Int.emod_eq_of_lt a.1 a.2

set_option maxHeartbeats 4000000 in
theorem nTo (q n : Int) {x : AV} {L : List Int} (hx : IsL .i64 x L) (hL : vecBad q n L = 0) : FF tab 56 [(.ag [.i .i64 (q), .i .i64 (n)]), x] = some ⟨.tp [.os (nums .i64 (toL q n L)) L.length 1, .nl], []⟩ := by
  obtain ⟨hq, hd, hn, hm⟩ := vecBad_zero.1 hL
  have hV := rVector q n hx (by have := vecBad_len hL; omega)
  rw [hL, show errV 0 = .nl from rfl] at hV
  have hR := nRoots hq hd
  have hnr := ntt_ring hq hd
  have hzn : ∀ k, k < 2 ^ dep q n → ni (rootsL q n) k = rt q n ^ revN (dep q n) k % q := fun k hk => rootsL_ni q n hk
  have hzl := rootsL_len q n
  obtain ⟨d1, d2, h3, h4, _⟩ := dep_ok hq hd
  have h0 := layL_first hq hd hn hm
  unfold toL
  have lo := hq.lo
  have dlo := hd.lo
  have dhi := hd.hi
  have hmN : n.toNat = mlen q n * 2 ^ dep q n := h3
  have hm0 : 0 < mlen q n := h4
  generalize rt q n = g at *
  generalize mlen q n = m at *
  generalize rootsL q n = Z at *
  generalize dep q n = D at *
  have hx' : x = .sl (nums .i64 L) L.length := by
    rcases hx with h | ⟨_, h⟩
    · exact h
    · subst h; simp at hn; omega
  subst hx'
  have hC := nClone (L := L) (by omega) (by omega)
  have hN : n.toNat = L.length := by omega
  rw [hN] at hmN
  have hl2 := pow_le d2
  refine call_by (A := A56) rfl rfl ?_
  simp (disch := first | assumption | omega | (simp only [List.length_cons, List.length_nil, List.length_set, List.length_append, List.length_replicate, List.length_map, List.length_range, List.length_take, List.length_drop, nums_length, bools_length, vecs_length]; first | done | omega)) [A56, hV, hR, hC]
  refine w_heads D (fun l => ⟨[(35, .i .i64 l), (34, .i .i64 D), (10, .rs 33 0 L.length 1), (7, .sl (nums .i64 Z) (2 ^ D)), (2, .rf 2 0)], [(33, nums .i64 (layL q g (ni L) m D l)), (2, [.i .i64 q, .i .i64 n])]⟩) (by rw [h0]; simp (disch := first | assumption | omega | (simp only [List.length_cons, List.length_nil, List.length_set, List.length_append, List.length_replicate, List.length_map, List.length_range, List.length_take, List.length_drop, nums_length, bools_length, vecs_length]; first | done | omega)) []) ?_ ?_
  · intro l hl
    have w1 : IntKind.i64.wrap ((l : Int) + 1) = (l : Int) + 1 := i64_in _ (by omega)
    have hs : L.length / 2 ^ (l + 1) = parts m D (l + 1) := by
      rw [hmN]; unfold parts
      rw [show 2 ^ D = 2 ^ (D - (l + 1)) * 2 ^ (l + 1) by rw [← Nat.pow_add]; congr 1; omega, ← Nat.mul_assoc, Nat.mul_div_cancel _ (Nat.two_pow_pos _)]
    have s1 := shr_by (a := L.length) (d := l + 1) (by omega)
    rw [hs] at s1
    have s2 := shl_one (d := l) (by omega)
    have hB0 := Nat.two_pow_pos l
    have hpl : 2 ^ l * 2 ≤ 2 ^ D := by rw [← Nat.pow_succ]; exact pow_le (by omega)
    have hS := parts_half (m := m) hl
    have hs0 := parts_pos (m := m) (d := D) (l := l + 1) hm0
    have hall := parts_all (m := m) (show l ≤ D by omega)
    rw [← hmN] at hall
    have hpair := fun (b t : Nat) (hb : b < 2 ^ l) (ht : t < parts m D (l + 1)) => lay_pair hnr (ni L) hl hb ht
    have hby : ∀ b : Nat, b < 2 ^ l → ni Z (2 ^ l + b) = g ^ expH D l b % q := fun b hb => by rw [hzn _ (by omega), expH_rev hl hb]
    have hF := layL_len q g (ni L) m D l
    have hH := layL_len q g (ni L) m D (l + 1)
    rw [← hmN] at hF hH
    have hlD : (l : Int) < (D : Int) := by omega
    rw [show (((l + 1 : Nat)) : Int) = (l : Int) + 1 from by omega] at s1
    rw [hn] at s1
    generalize layL q g (ni L) m D l = F at *
    generalize layL q g (ni L) m D (l + 1) = H at *
    generalize parts m D l = S at *
    generalize parts m D (l + 1) = s at *
    generalize 2 ^ l = B at *
    generalize 2 ^ D = Q at *
    have hst := mixL_start (n := L.length) (S := S) (by omega) (F := F) (H := H) hF
    have hend := mixL_end (n := L.length) (S := S) (B := B) (by rw [hall]) (F := F) (H := H) hH
    have hSN : S ≤ L.length := by rw [← hall]; exact Nat.le_mul_of_pos_left _ (by omega)
    have k1 : IntKind.i64.wrap (2 * (s : Int)) = (S : Int) := by rw [i64_in _ (by omega)]; omega
    simp (disch := first | assumption | omega | (simp only [List.length_cons, List.length_nil, List.length_set, List.length_append, List.length_replicate, List.length_map, List.length_range, List.length_take, List.length_drop, nums_length, bools_length, vecs_length]; first | done | omega)) [s1, s2, w1, hlD, -shiftV_shl, -shiftV_shr]
    refine w_heads B (fun b => ⟨[(45, .i .i64 b), (44, .i .i64 B), (35, .i .i64 l), (34, .i .i64 D), (12, .i .i64 s), (11, .i .i64 l), (10, .rs 33 0 L.length 1), (7, .sl (nums .i64 Z) Q), (2, .rf 2 0)], [(33, nums .i64 (mixL L.length S F H b 0)), (2, [.i .i64 q, .i .i64 n])]⟩) (by rw [hst]; simp (disch := first | assumption | omega | (simp only [List.length_cons, List.length_nil, List.length_set, List.length_append, List.length_replicate, List.length_map, List.length_range, List.length_take, List.length_drop, nums_length, bools_length, vecs_length]; first | done | omega)) []) ?_ ?_
    · intro b hb
      have wb : IntKind.i64.wrap ((b : Int) + 1) = (b : Int) + 1 := i64_in _ (by omega)
      have hbS : b * S + S ≤ L.length := by
        rw [← hall]
        have : (b + 1) * S ≤ B * S := Nat.mul_le_mul_right _ hb
        rw [Nat.add_mul, Nat.one_mul] at this; exact this
      have wz : IntKind.i64.wrap ((B : Int) + (b : Int)) = (B : Int) + b := i64_in _ (by omega)
      have hgz := nums_get (k := .i64) (L := Z) (j := B + b) (by omega)
      rw [hby b hb] at hgz
      have tz : ((B : Int) + (b : Int)).toNat = B + b := by omega
      have hZl := nums_length .i64 Z
      have bz : 0 ≤ (B : Int) + b ∧ (B : Int) + b < (Q : Int) ∧ B + b < Z.length := by omega
      have hbB : (b : Int) < (B : Int) := by omega
      have hnx := mixL_next (n := L.length) (S := S) (s := s) hS (by omega) F H b
      have hpb := fun t (ht : t < s) => hpair b t hb ht
      have kU : IntKind.i64.wrap ((S : Int) * (b : Int)) = ((b * S : Nat) : Int) := by
        rw [show (S : Int) * (b : Int) = ((b * S : Nat) : Int) by rw [Int.natCast_mul, Int.mul_comm]]
        exact i64_in _ (by omega)
      have hpr := fun t (ht : t < s) => mixL_pair (n := L.length) (S := S) (s := s) (b := b) (t := t) hS ht hbS (F := F) (H := H) (hpb t ht).1 (hpb t ht).2
      have hml := fun t => mixL_len L.length S F H b t
      clear hpair hby hpb hall
      generalize mixL L.length S F H (b + 1) 0 = Nx at *
      generalize g ^ expH D l b % q = V at *
      generalize b * S = U at *
      simp (disch := first | assumption | omega | (simp only [List.length_cons, List.length_nil, List.length_set, List.length_append, List.length_replicate, List.length_map, List.length_range, List.length_take, List.length_drop, nums_length, bools_length, vecs_length]; first | done | omega)) [s2, k1, wz, tz, hgz, hZl, hzl, hbB, kU, -shiftV_shl, -shiftV_shr]
      refine w_heads s (fun t => ⟨[(45, .i .i64 b), (44, .i .i64 B), (35, .i .i64 l), (34, .i .i64 D), (15, .i .i64 ((U : Int) + t)), (14, .i .i64 V), (13, .i .i64 b), (12, .i .i64 s), (11, .i .i64 l), (10, .rs 33 0 L.length 1), (7, .sl (nums .i64 Z) Q), (2, .rf 2 0)], [(33, nums .i64 (mixL L.length S F H b t)), (2, [.i .i64 q, .i .i64 n])]⟩) (by simp (disch := first | assumption | omega | (simp only [List.length_cons, List.length_nil, List.length_set, List.length_append, List.length_replicate, List.length_map, List.length_range, List.length_take, List.length_drop, nums_length, bools_length, vecs_length]; first | done | omega)) []) ?_ ?_
      · intro t ht
        obtain ⟨p1, p2, p3⟩ := hpr t ht
        have hl0 := hml t
        have hl1 := hml (t + 1)
        have u1 : IntKind.i64.wrap ((U : Int) + (t : Int) + 1) = (U : Int) + ((t : Int) + 1) := by rw [i64_in _ (by omega)]; omega
        have u2 : IntKind.i64.wrap ((U : Int) + (t : Int) + (s : Int)) = (U : Int) + (t : Int) + (s : Int) := i64_in _ (by omega)
        have u3 : ((U : Int) + (t : Int)).toNat = U + t := by omega
        have u4 : ((U : Int) + (t : Int) + (s : Int)).toNat = U + t + s := by omega
        have u5 : IntKind.i64.wrap ((U : Int) + (s : Int)) = (U : Int) + (s : Int) := i64_in _ (by omega)
        have u6 : (U : Int) + (t : Int) < (U : Int) + (s : Int) := by omega
        have b1 : 0 ≤ (U : Int) + t ∧ (U : Int) + t < (L.length : Int) := by omega
        have b2 : 0 ≤ (U : Int) + t + s ∧ (U : Int) + t + s < (L.length : Int) := by omega
        have g1 := nums_get (k := .i64) (L := mixL L.length S F H b t) (j := U + t) (by omega)
        have g2 := nums_get (k := .i64) (L := mixL L.length S F H b t) (j := U + t + s) (by omega)
        rw [p1] at g1
        rw [p2] at g2
        have m1 := Mul V (ni F (U + t + s)) hq
        have m2 := Add (ni F (U + t)) (V * ni F (U + t + s) % q) hq
        have m3 := Sub (ni F (U + t)) (V * ni F (U + t + s) % q) hq
        generalize ni F (U + t + s) = Y at *
        generalize ni F (U + t) = X at *
        generalize V * Y % q = W at *
        generalize (X + W) % q = R1 at *
        generalize (X - W) % q = R2 at *
        generalize mixL L.length S F H b t = M at *
        generalize mixL L.length S F H b (t + 1) = M' at *
        clear p1 p2 hpr hml
        generalize hT : (t : Int) = T at *
        simp (disch := first | assumption | omega | (simp only [List.length_cons, List.length_nil, List.length_set, List.length_append, List.length_replicate, List.length_map, List.length_range, List.length_take, List.length_drop, nums_length, bools_length, vecs_length]; first | done | omega)) [k1, kU, u1, u2, u3, u4, u5, u6, g1, g2, m1, m2, m3, nums_set, p3, hT, -shiftV_shl, -shiftV_shr]
      · rw [hnx]
        have u5 : IntKind.i64.wrap ((U : Int) + (s : Int)) = (U : Int) + (s : Int) := i64_in _ (by omega)
        generalize hT : (b : Int) = T at *
        simp (disch := first | assumption | omega | (simp only [List.length_cons, List.length_nil, List.length_set, List.length_append, List.length_replicate, List.length_map, List.length_range, List.length_take, List.length_drop, nums_length, bools_length, vecs_length]; first | done | omega)) [k1, kU, u5, wb, hT, -shiftV_shl, -shiftV_shr]
    · rw [hend]
      simp (disch := first | assumption | omega | (simp only [List.length_cons, List.length_nil, List.length_set, List.length_append, List.length_replicate, List.length_map, List.length_range, List.length_take, List.length_drop, nums_length, bools_length, vecs_length]; first | done | omega)) [w1, -shiftV_shl, -shiftV_shr]
  · have hF := layL_len q g (ni L) m D D
    rw [← hmN] at hF
    generalize layL q g (ni L) m D D = F at *
    simp (disch := first | assumption | omega | (simp only [List.length_cons, List.length_nil, List.length_set, List.length_append, List.length_replicate, List.length_map, List.length_range, List.length_take, List.length_drop, nums_length, bools_length, vecs_length]; first | done | omega)) [-shiftV_shl, -shiftV_shr]
end Zab.YtcebddjidpbhgaaDoorB
