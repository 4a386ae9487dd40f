/- A vector, back. -/
import Derived.Test.YtcebddjidpbhgaaDoorBNttT
import Derived.Test.YtcebddjidpbhgaaDoorZabNtt
namespace Zab.YtcebddjidpbhgaaDoorB
open Go
open Go.IntWalk (i64_in)
set_option maxRecDepth 100000
set_option linter.unusedSimpArgs false
set_option linter.unusedVariables false
attribute [-simp] getElem?_pos
attribute [local simp ↓] W_loop W_seq W_skip W_ret W_exit W_reg W_cond W_block W_pre cleanO_some freezes_nil freezes_cons frzO_some andThen_normal andThen_ret andThen_exit unblock_normal unblock_ret unblock_exit Ends_normal Ends_ret steps_nil steps_cons step_some st_move st_pick st_bin st_un st_conv st_addr sv_ixA sv_ixS sv_fld sv_ixV st_ixStr st_ext sv_build sv_bsl sv_mkS st_mkfn sv_lenS sv_len st_mn st_mx st_nilChk st_tas st_slc sv_loadg sv_load st_call sv_store sv_box sv_alloc sv_mkR sv_bslR sv_nilR sv_app sv_callK stepsAt_some onSome_some onB_true onB_false onG_tt onG_tf onG_ft onG_ff onG_un optPut_some optMem_some
attribute [local simp] evalO evalL constAV get_cons get_nil put_cons put_nil look_cons look_nil putD_some clean_mk freeze_mk mapS del_cons del_nil keepS_cons keepS_nil keepL_cons keepL_nil memb_cons memb_nil unV pureV convV_i addrV toArgs anyRs hasSl2L fromRetL finR resL resV toRets one Nat.beq Nat.ble shiftV_shr shiftV_shl IntKind.bits fillV List.getElem?_cons_zero List.getElem?_cons_succ List.length_cons List.length_nil List.set_cons_zero List.set_cons_succ setR2 setR3 zrep_eqs binV_i binI_shl binI_shr binI_eqs binV_eqs binV_slcE binV_slcN lendsC_some lends_nil lends_eqs fl_lends lends_rf lendsR_some lends_rs lendsS_some seesAny_no callK1_fn callK2_some callK3_some recvPut_some afterK_some afterK_none putAll_nil putAll_cons hasSlLL_nil hasSlLL_cons recv_os recv_op recv_no recvV_some recv_tp recvT_os recvT_op srcV_rs srcR_some List.append_nil intV_quo intV_rem hasSlL mapR_eqs kill1_eqs frz1_eqs enterS_eqs enterL_eqs isRs_eqs toArg_eqs from1_eqs from_eqs toRet_eqs lentOf_eqs countR_eqs hasSl1_eqs hasSl2_eqs hasSl_eqs cellsOf_ag1 cellsOf_ag2 cellsOf_ag3 cellsOf_ag4 cellsOf_ag5 partV_2 partV_3 partV_4 partV_5 toRet_own ownR_of toArg_rs seenR_all seenR_part appS_rs appR_of srcV_sl srcV_z nilS_z bslS_some dec_t dec_f buildV_some bslV_some boxS_some root_mk ixSV_sl ixSV_rs ixAV_rf ixAV_el ixVV_ag fldV_ag lenV_sl lenV_rs lenV_z lenSV_s loadV_rf loadV_el loadR_some partV_none partV_all partV_some storeV_rf setR_one setR_all cellsOf_ag cellsOf_i cellsOf_b cellsOf_sl cellsOf_z cellsOf_er cellsOf_nl cellsOf_np cellsOf_s mkSV_of mkRS_of fl_map fl_kill fl_frz fl_enterS fl_enterL fl_lentOf fl_toArg fl_isRs fl_toRet fl_from1 fl_from fl_cells fl_countR nums_length nums_get nums_set nums_append nums_snoc nums_drop nums_take nums_zrep nums_hasSl bools_length bools_get bools_set bools_snoc bools_zrep bools_hasSl vecs_length vecs_get vecs_snoc slcV_sl idxO idx Nat.zero_add Nat.mul_one Nat.add_zero stepsAt_some onSome_some onB_true onB_false onG_tt onG_tf onG_ft onG_ff onG_un optPut_some optMem_some

/-- The root's inverse. -/
noncomputable def irt (q n : Int) : Int := rt q n ^ (q - 2).toNat % q
theorem inv_of {q : Int} (hq : Right q) {a : Int} (ha : a % q ≠ 0) : Eqm q (a * (a ^ (q - 2).toNat % q)) 1 := by
  have lo := hq.lo
  have := Fermat.inv_ok hq.pr (a := a) (by rw [Int.toNat_of_nonneg (by omega)]; exact ha)
  rw [Int.toNat_of_nonneg (by omega), show q.toNat - 2 = (q - 2).toNat by omega] at this
  unfold Eqm
  rw [this]; exact (Int.emod_eq_of_lt (by omega) (by omega)).symm
theorem rt_inv {q n : Int} (hq : Right q) (hd : Deg n) : Eqm q (rt q n * irt q n) 1 := by
  have lo := hq.lo
  obtain ⟨_, h2, h3⟩ := rt_isRt hq hd
  exact inv_of hq (by rw [Int.emod_eq_of_lt (by omega) h3]; omega)
theorem nz_of {q a b : Int} (hq : 1 < q) (h : Eqm q (a * b) 1) : a % q ≠ 0 := by
  intro h0
  have h1 : Eqm q (a * b) (0 * b) := Eqm.mul (by unfold Eqm; rw [h0]; simp) Eqm.rfl
  rw [Int.zero_mul] at h1
  have := h.symm.trans h1
  unfold Eqm at this
  rw [Int.emod_eq_of_lt (by omega) hq] at this
  simp at this
theorem inv_unique {q a b c : Int} (hb : Eqm q (a * b) 1) (hc : Eqm q (a * c) 1) : Eqm q b c := by
  have h1 : Eqm q (b * (a * c)) b := (Eqm.rfl.mul hc).trans (Eqm.of (by omega))
  have h2 : Eqm q (b * (a * c)) c := by
    rw [← Int.mul_assoc, Int.mul_comm b]; exact (hb.mul Eqm.rfl).trans (Eqm.of (by omega))
  exact h1.symm.trans h2
/-- One over the number of parts. -/
def over (q n : Int) : Int := ((2 ^ dep q n : Nat) : Int) ^ (q - 2).toNat % q
theorem two_pow_nz : ∀ q ∈ qs, ∀ n ∈ ns, ((2 ^ dep q n : Nat) : Int) % q ≠ 0 := by decide +kernel
theorem over_ok {q n : Int} (hq : Right q) (hd : Deg n) : Eqm q (((2 ^ dep q n : Nat) : Int) * over q n) 1 := inv_of hq (two_pow_nz q (right_qs hq) n (deg_ns hd))
/-- A vector, back. -/
noncomputable def fromL (q n : Int) (L : List Int) : List Int := (froL q (irt q n) (ni L) (mlen q n) (dep q n) 0).map fun a => a * (over q n % q) % q
theorem fromL_len {q n : Int} (hq : Right q) (hd : Deg n) (L : List Int) : (fromL q n L).length = n.toNat := by
  obtain ⟨_, _, h3, _⟩ := dep_ok hq hd
  unfold fromL
  rw [List.length_map, froL_len]; exact h3.symm
theorem froL_first {q n : Int} {L : List Int} (hq : Right q) (hd : Deg n) (hn : (L.length : Int) = n) (hm : Mods q L) : froL q (irt q n) (ni L) (mlen q n) (dep q n) (dep q n) = L := by
  obtain ⟨_, _, h3, h4, _⟩ := dep_ok hq hd
  have hR := ntt_ring hq hd
  have hlo := hq.lo
  refine ni_extL (by rw [froL_len]; unfold mlen; omega) fun j hj => ?_
  rw [froL_len] at hj
  have hj' : j < n.toNat := by unfold mlen at hj; omega
  have h1 := froL_last (hR.inv (rt_inv hq hd)) (ni L) j hj
  have a := mods_at hm (j := j) (by omega)
  have b : 0 ≤ ni (froL q (irt q n) (ni L) (mlen q n) (dep q n) (dep q n)) j ∧ ni (froL q (irt q n) (ni L) (mlen q n) (dep q n) (dep q n)) j < q := by
    unfold froL
    rw [ni_map hj]
    exact ⟨Int.emod_nonneg _ (by omega), Int.emod_lt_of_pos _ (by omega)⟩
  exact h1.eq b.1 b.2 a.1 a.2

set_option maxHeartbeats 4000000 in
theorem nFrom (q n : Int) {x : AV} {L : List Int} (hx : IsL .i64 x L) (hL : vecBad q n L = 0) : FF tab 58 [(.ag [.i .i64 (q), .i .i64 (n)]), x] = some ⟨.tp [.sl (nums .i64 (fromL q n L)) L.length, .nl], []⟩ := by
  obtain ⟨hq, hd, hn, hm⟩ := vecBad_zero.1 hL
  have hV := rVector q n hx (by have := vecBad_len hL; omega)
  rw [hL, show errV 0 = .nl from rfl] at hV
  have hR := nRoots hq hd
  have hnr := ntt_ring hq hd
  have hinv := rt_inv hq hd
  have hRh := hnr.inv hinv
  have hzn : ∀ k, k < 2 ^ dep q n → ni (rootsL q n) k = rt q n ^ revN (dep q n) k % q := fun k hk => rootsL_ni q n hk
  have hzl := rootsL_len q n
  obtain ⟨d1, d2, h3, h4, _⟩ := dep_ok hq hd
  have h0 := froL_first hq hd hn hm
  have lo := hq.lo
  have hi := hq.hi
  have dlo := hd.lo
  have dhi := hd.hi
  have hmN : n.toNat = mlen q n * 2 ^ dep q n := h3
  have hm0 : 0 < mlen q n := h4
  have hov := Inv ((2 ^ dep q n : Nat) : Int) hq
  rw [if_neg (two_pow_nz q (right_qs hq) n (deg_ns hd))] at hov
  have hov' : FF tab 86 [.i .i64 ((2 ^ dep q n : Nat) : Int), .i .i64 q] = some ⟨.tp [.i .i64 (over q n), .nl], []⟩ := hov
  have hfm := froL_len q (irt q n) (ni L) (mlen q n) (dep q n) 0
  rw [← hmN] at hfm
  have hfv : vecBad q n (froL q (irt q n) (ni L) (mlen q n) (dep q n) 0) = 0 := vecBad_zero.2 ⟨hq, hd, by rw [hfm]; omega, by
    intro y hy
    unfold froL at hy
    obtain ⟨p, _, rfl⟩ := List.mem_map.1 hy
    exact ⟨Int.emod_nonneg _ (by omega), Int.emod_lt_of_pos _ (by omega)⟩⟩
  have hsc := rScale q n (.mk .i64 (froL q (irt q n) (ni L) (mlen q n) (dep q n) 0)) hfv (over q n)
  rw [show slv .i64 (froL q (irt q n) (ni L) (mlen q n) (dep q n) 0) = .sl (nums .i64 (froL q (irt q n) (ni L) (mlen q n) (dep q n) 0)) (froL q (irt q n) (ni L) (mlen q n) (dep q n) 0).length from rfl, hfm] at hsc
  have hfl := fromL_len hq hd L
  clear hov
  unfold fromL at hfl ⊢
  generalize rt q n = g at *
  generalize irt q n = h at *
  generalize mlen q n = m at *
  generalize rootsL q n = Z at *
  generalize over q n = ov at *
  generalize dep q n = D at *
  have hx' : x = .sl (nums .i64 L) L.length := by
    rcases hx with h | ⟨_, h⟩
    · exact h
    · subst h; simp at hn; omega
  subst hx'
  have hC := nClone (L := L) (by omega) (by omega)
  have hN : n.toNat = L.length := by omega
  rw [hN] at hmN hfl hfm hsc
  have hl2 := pow_le d2
  have shD := shl_one (d := D) (by omega)
  refine call_by (A := A58) rfl rfl ?_
  have wD : IntKind.i64.wrap ((D : Int) - 1) = (D : Int) - 1 := i64_in _ (by omega)
  simp (disch := first | assumption | omega | (simp only [List.length_cons, List.length_nil, List.length_set, List.length_append, List.length_replicate, List.length_map, List.length_range, List.length_take, List.length_drop, nums_length, bools_length, vecs_length]; first | done | omega)) [A58, hV, hR, hC, wD]
  refine w_heads D (fun k => ⟨[(11, .i .i64 ((D : Int) - 1 - k)), (10, .rs 36 0 L.length 1), (8, .i .i64 D), (7, .sl (nums .i64 Z) (2 ^ D)), (2, .rf 2 0)], [(36, nums .i64 (froL q h (ni L) m D (D - k))), (2, [.i .i64 q, .i .i64 n])]⟩) (by rw [Nat.sub_zero, h0]; simp (disch := first | assumption | omega | (simp only [List.length_cons, List.length_nil, List.length_set, List.length_append, List.length_replicate, List.length_map, List.length_range, List.length_take, List.length_drop, nums_length, bools_length, vecs_length]; first | done | omega)) []) ?_ ?_
  · intro k hk
    obtain ⟨l, hl, hkl, hlk⟩ : ∃ l : Nat, l < D ∧ D - k = l + 1 ∧ D - (k + 1) = l := ⟨D - 1 - k, by omega, by omega, by omega⟩
    have hki : (D : Int) - 1 - (k : Int) = (l : Int) := by omega
    have hki2 : (D : Int) - 1 - ((k : Int) + 1) = (l : Int) - 1 := by omega
    rw [hkl]
    have w1 : IntKind.i64.wrap ((l : Int) + 1) = ((l + 1 : Nat) : Int) := i64_in _ (by omega)
    have w2 : IntKind.i64.wrap ((l : Int) - 1) = (l : Int) - 1 := i64_in _ (by omega)
    have hs : L.length / 2 ^ (l + 1) = parts m D (l + 1) := by
      rw [hmN]; unfold parts
      rw [show 2 ^ D = 2 ^ (D - (l + 1)) * 2 ^ (l + 1) by rw [← Nat.pow_add]; congr 1; omega, ← Nat.mul_assoc, Nat.mul_div_cancel _ (Nat.two_pow_pos _)]
    have s1 := shr_by (a := L.length) (d := l + 1) (by omega)
    rw [hs] at s1
    have s2 := shl_one (d := l) (by omega)
    have hB0 := Nat.two_pow_pos l
    have hpl : 2 ^ l * 2 ≤ 2 ^ D := by rw [← Nat.pow_succ]; exact pow_le (by omega)
    have hS := parts_half (m := m) hl
    have hs0 := parts_pos (m := m) (d := D) (l := l + 1) hm0
    have hall := parts_all (m := m) (show l ≤ D by omega)
    rw [← hmN] at hall
    have hpair := fun (b t : Nat) (hb : b < 2 ^ l) (ht : t < parts m D (l + 1)) (v : Int) (hv : Eqm q v (h ^ expH D l b)) => fro_pair hRh (ni L) hl hb ht hv
    have hby : ∀ b : Nat, b < 2 ^ l → ∃ z v : Int, ni Z (2 ^ l + b) = z ∧ FF tab 86 [.i .i64 z, .i .i64 q] = some ⟨.tp [.i .i64 v, .nl], []⟩ ∧ Eqm q v (h ^ expH D l b) := fun b hb => by
      have e := hzn (2 ^ l + b) (by omega)
      rw [expH_rev hl hb] at e
      have hg : Eqm q (g ^ expH D l b % q * h ^ expH D l b) 1 := ((Eqm.mod _ _).mul Eqm.rfl).trans (pow_inv hinv _)
      have nz := nz_of (by omega) hg
      have hI := Inv (g ^ expH D l b % q) hq
      rw [if_neg nz] at hI
      exact ⟨_, _, e, hI, inv_unique (inv_of hq nz) hg⟩
    have hF := froL_len q h (ni L) m D (l + 1)
    have hH := froL_len q h (ni L) m D l
    rw [← hmN] at hF hH
    have hlD : 0 ≤ (l : Int) := by omega
    rw [hn] at s1
    generalize froL q h (ni L) m D (l + 1) = F at *
    generalize hHd : froL q h (ni L) m D l = H at *
    rw [hlk, hHd]
    generalize parts m D l = S at *
    generalize parts m D (l + 1) = s at *
    generalize 2 ^ l = B at *
    generalize 2 ^ D = Q at *
    have hst := mixL_start (n := L.length) (S := S) (by omega) (F := F) (H := H) hF
    have hend := mixL_end (n := L.length) (S := S) (B := B) (by rw [hall]) (F := F) (H := H) hH
    have hSN : S ≤ L.length := by rw [← hall]; exact Nat.le_mul_of_pos_left _ (by omega)
    have k1 : IntKind.i64.wrap (2 * (s : Int)) = (S : Int) := by rw [i64_in _ (by omega)]; omega
    rw [hki]
    generalize ((l + 1 : Nat) : Int) = l1 at *
    simp (disch := first | assumption | omega | (simp only [List.length_cons, List.length_nil, List.length_set, List.length_append, List.length_replicate, List.length_map, List.length_range, List.length_take, List.length_drop, nums_length, bools_length, vecs_length]; first | done | omega)) [s1, s2, w1, hlD, -shiftV_shl, -shiftV_shr]
    refine w_heads B (fun b => ⟨[(50, .i .i64 b), (49, .i .i64 B), (12, .i .i64 s), (11, .i .i64 l), (10, .rs 36 0 L.length 1), (8, .i .i64 D), (7, .sl (nums .i64 Z) Q), (2, .rf 2 0)], [(36, nums .i64 (mixL L.length S F H b 0)), (2, [.i .i64 q, .i .i64 n])]⟩) (by rw [hst]; simp (disch := first | assumption | omega | (simp only [List.length_cons, List.length_nil, List.length_set, List.length_append, List.length_replicate, List.length_map, List.length_range, List.length_take, List.length_drop, nums_length, bools_length, vecs_length]; first | done | omega)) []) ?_ ?_
    · intro b hb
      have wb : IntKind.i64.wrap ((b : Int) + 1) = (b : Int) + 1 := i64_in _ (by omega)
      have hbS : b * S + S ≤ L.length := by
        rw [← hall]
        have : (b + 1) * S ≤ B * S := Nat.mul_le_mul_right _ hb
        rw [Nat.add_mul, Nat.one_mul] at this; exact this
      have wz : IntKind.i64.wrap ((B : Int) + (b : Int)) = (B : Int) + b := i64_in _ (by omega)
      obtain ⟨z, v, hz1, hz2, hz3⟩ := hby b hb
      have hgz := nums_get (k := .i64) (L := Z) (j := B + b) (by omega)
      rw [hz1] at hgz
      have tz : ((B : Int) + (b : Int)).toNat = B + b := by omega
      have hZl := nums_length .i64 Z
      have bz : 0 ≤ (B : Int) + b ∧ (B : Int) + b < (Q : Int) ∧ B + b < Z.length := by omega
      have hbB : (b : Int) < (B : Int) := by omega
      have hnx := mixL_next (n := L.length) (S := S) (s := s) hS (by omega) F H b
      have hpb := fun t (ht : t < s) => hpair b t hb ht v hz3
      have kU : IntKind.i64.wrap ((S : Int) * (b : Int)) = ((b * S : Nat) : Int) := by
        rw [show (S : Int) * (b : Int) = ((b * S : Nat) : Int) by rw [Int.natCast_mul, Int.mul_comm]]
        exact i64_in _ (by omega)
      have hpr := fun t (ht : t < s) => mixL_pair (n := L.length) (S := S) (s := s) (b := b) (t := t) hS ht hbS (F := F) (H := H) (hpb t ht).1 (hpb t ht).2
      have hml := fun t => mixL_len L.length S F H b t
      clear hpair hby hpb hall hz1 hz3
      generalize mixL L.length S F H (b + 1) 0 = Nx at *
      generalize b * S = U at *
      simp (disch := first | assumption | omega | (simp only [List.length_cons, List.length_nil, List.length_set, List.length_append, List.length_replicate, List.length_map, List.length_range, List.length_take, List.length_drop, nums_length, bools_length, vecs_length]; first | done | omega)) [s2, k1, wz, tz, hgz, hZl, hzl, hbB, kU, hz2, -shiftV_shl, -shiftV_shr]
      refine w_heads s (fun t => ⟨[(50, .i .i64 b), (49, .i .i64 B), (16, .i .i64 ((U : Int) + t)), (14, .i .i64 v), (13, .i .i64 b), (12, .i .i64 s), (11, .i .i64 l), (10, .rs 36 0 L.length 1), (8, .i .i64 D), (7, .sl (nums .i64 Z) Q), (2, .rf 2 0)], [(36, nums .i64 (mixL L.length S F H b t)), (2, [.i .i64 q, .i .i64 n])]⟩) (by simp (disch := first | assumption | omega | (simp only [List.length_cons, List.length_nil, List.length_set, List.length_append, List.length_replicate, List.length_map, List.length_range, List.length_take, List.length_drop, nums_length, bools_length, vecs_length]; first | done | omega)) []) ?_ ?_
      · intro t ht
        obtain ⟨p1, p2, p3⟩ := hpr t ht
        have hl0 := hml t
        have hl1 := hml (t + 1)
        have u1 : IntKind.i64.wrap ((U : Int) + (t : Int) + 1) = (U : Int) + ((t : Int) + 1) := by rw [i64_in _ (by omega)]; omega
        have u2 : IntKind.i64.wrap ((U : Int) + (t : Int) + (s : Int)) = (U : Int) + (t : Int) + (s : Int) := i64_in _ (by omega)
        have u3 : ((U : Int) + (t : Int)).toNat = U + t := by omega
        have u4 : ((U : Int) + (t : Int) + (s : Int)).toNat = U + t + s := by omega
        have u5 : IntKind.i64.wrap ((U : Int) + (s : Int)) = (U : Int) + (s : Int) := i64_in _ (by omega)
        have u6 : (U : Int) + (t : Int) < (U : Int) + (s : Int) := by omega
        have b1 : 0 ≤ (U : Int) + t ∧ (U : Int) + t < (L.length : Int) := by omega
        have b2 : 0 ≤ (U : Int) + t + s ∧ (U : Int) + t + s < (L.length : Int) := by omega
        have g1 := nums_get (k := .i64) (L := mixL L.length S F H b t) (j := U + t) (by omega)
        have g2 := nums_get (k := .i64) (L := mixL L.length S F H b t) (j := U + t + s) (by omega)
        rw [p1] at g1
        rw [p2] at g2
        have m2 := Add (ni F (U + t)) (ni F (U + t + s)) hq
        have m3 := Sub (ni F (U + t)) (ni F (U + t + s)) hq
        have m1 := Mul v ((ni F (U + t) - ni F (U + t + s)) % q) hq
        generalize ni F (U + t + s) = Y at *
        generalize ni F (U + t) = X at *
        generalize v * ((X - Y) % q) % q = W at *
        generalize (X + Y) % q = R1 at *
        generalize (X - Y) % q = R2 at *
        generalize mixL L.length S F H b t = M at *
        generalize mixL L.length S F H b (t + 1) = M' at *
        clear p1 p2 hpr hml
        generalize hT : (t : Int) = T at *
        simp (disch := first | assumption | omega | (simp only [List.length_cons, List.length_nil, List.length_set, List.length_append, List.length_replicate, List.length_map, List.length_range, List.length_take, List.length_drop, nums_length, bools_length, vecs_length]; first | done | omega)) [k1, kU, u1, u2, u3, u4, u5, u6, g1, g2, m1, m2, m3, nums_set, p3, hT, -shiftV_shl, -shiftV_shr]
      · rw [hnx]
        have u5 : IntKind.i64.wrap ((U : Int) + (s : Int)) = (U : Int) + (s : Int) := i64_in _ (by omega)
        generalize hT : (b : Int) = T at *
        simp (disch := first | assumption | omega | (simp only [List.length_cons, List.length_nil, List.length_set, List.length_append, List.length_replicate, List.length_map, List.length_range, List.length_take, List.length_drop, nums_length, bools_length, vecs_length]; first | done | omega)) [k1, kU, u5, wb, hT, -shiftV_shl, -shiftV_shr]
    · rw [hend]
      simp (disch := first | assumption | omega | (simp only [List.length_cons, List.length_nil, List.length_set, List.length_append, List.length_replicate, List.length_map, List.length_range, List.length_take, List.length_drop, nums_length, bools_length, vecs_length]; first | done | omega)) [w2, hki2, -shiftV_shl, -shiftV_shr]
  · rw [Nat.sub_self]
    have hneg : (D : Int) - 1 - (D : Int) = -1 := by omega
    rw [hneg]
    have hfl2 : (nums .i64 (List.map (fun a => a * (ov % q) % q) (froL q h (ni L) m D 0))).length = L.length := by rw [nums_length, List.length_map, hfm]
    generalize froL q h (ni L) m D 0 = X at *
    have hXl := nums_length .i64 X
    generalize List.map (fun a => a * (ov % q) % q) X = Y at *
    have hsY := nums_hasSl .i64 Y
    have tk : List.take L.length X = X := List.take_of_length_le (by omega)
    generalize ((2 ^ D : Nat) : Int) = Q at *
    simp (disch := first | assumption | omega | (simp only [List.length_cons, List.length_nil, List.length_set, List.length_append, List.length_replicate, List.length_map, List.length_range, List.length_take, List.length_drop, nums_length, bools_length, vecs_length]; first | done | omega)) [shD, hov', hsc, hsY, tk, -shiftV_shl, -shiftV_shr]
end Zab.YtcebddjidpbhgaaDoorB
