/- Roots: how often a ring parts, its root, numbers turned round. -/
import Derived.Test.YtcebddjidpbhgaaDoorBRing
import Derived.Test.YtcebddjidpbhgaaDoorZabNtt
import Derived.Test.YtcebddjidpbhgaaDoorZabBit
import Derived.Test.YtcebddjidpbhgaaDoorZabFermat
import Derived.KernelRfl
namespace Zab.YtcebddjidpbhgaaDoorB
open Go
open Go.IntWalk (i64_in)
set_option maxRecDepth 100000
set_option linter.unusedSimpArgs false
set_option linter.unusedVariables false
attribute [-simp] getElem?_pos
attribute [local simp ↓] W_loop W_seq W_skip W_ret W_exit W_reg W_cond W_block W_pre cleanO_some freezes_nil freezes_cons frzO_some andThen_normal andThen_ret andThen_exit unblock_normal unblock_ret unblock_exit Ends_normal Ends_ret steps_nil steps_cons step_some st_move st_pick st_bin st_un st_conv st_addr sv_ixA sv_ixS sv_fld sv_ixV st_ixStr st_ext sv_build sv_bsl sv_mkS st_mkfn sv_lenS sv_len st_mn st_mx st_nilChk st_tas st_slc sv_loadg sv_load st_call sv_store sv_box sv_alloc sv_mkR sv_bslR sv_nilR sv_app sv_callK stepsAt_some onSome_some onB_true onB_false onG_tt onG_tf onG_ft onG_ff onG_un optPut_some optMem_some
attribute [local simp] evalO evalL constAV get_cons get_nil put_cons put_nil look_cons look_nil putD_some clean_mk freeze_mk mapS del_cons del_nil keepS_cons keepS_nil keepL_cons keepL_nil memb_cons memb_nil unV pureV convV_i addrV toArgs anyRs hasSl2L fromRetL finR resL resV toRets one Nat.beq Nat.ble shiftV_shr shiftV_shl IntKind.bits fillV List.getElem?_cons_zero List.getElem?_cons_succ List.length_cons List.length_nil List.set_cons_zero List.set_cons_succ setR2 setR3 zrep_eqs binV_i binI_shl binI_shr binI_eqs binV_eqs binV_slcE binV_slcN lendsC_some lends_nil lends_eqs fl_lends lends_rf lendsR_some lends_rs lendsS_some seesAny_no callK1_fn callK2_some callK3_some recvPut_some afterK_some afterK_none putAll_nil putAll_cons hasSlLL_nil hasSlLL_cons recv_os recv_op recv_no recvV_some recv_tp recvT_os recvT_op srcV_rs srcR_some List.append_nil intV_quo intV_rem hasSlL mapR_eqs kill1_eqs frz1_eqs enterS_eqs enterL_eqs isRs_eqs toArg_eqs from1_eqs from_eqs toRet_eqs lentOf_eqs countR_eqs hasSl1_eqs hasSl2_eqs hasSl_eqs cellsOf_ag1 cellsOf_ag2 cellsOf_ag3 cellsOf_ag4 cellsOf_ag5 partV_2 partV_3 partV_4 partV_5 toRet_own ownR_of toArg_rs seenR_all seenR_part appS_rs appR_of srcV_sl srcV_z nilS_z bslS_some dec_t dec_f buildV_some bslV_some boxS_some root_mk ixSV_sl ixSV_rs ixAV_rf ixAV_el ixVV_ag fldV_ag lenV_sl lenV_rs lenV_z lenSV_s loadV_rf loadV_el loadR_some partV_none partV_all partV_some storeV_rf setR_one setR_all cellsOf_ag cellsOf_i cellsOf_b cellsOf_sl cellsOf_z cellsOf_er cellsOf_nl cellsOf_np cellsOf_s mkSV_of mkRS_of fl_map fl_kill fl_frz fl_enterS fl_enterL fl_lentOf fl_toArg fl_isRs fl_toRet fl_from1 fl_from fl_cells fl_countR nums_length nums_get nums_set nums_append nums_snoc nums_drop nums_take nums_zrep nums_hasSl bools_length bools_get bools_set bools_snoc bools_zrep bools_hasSl vecs_length vecs_get vecs_snoc slcV_sl idxO idx Nat.zero_add Nat.mul_one Nat.add_zero stepsAt_some onSome_some onB_true onB_false onG_tt onG_tf onG_ft onG_ff onG_un optPut_some optMem_some

theorem Right.pr {p : Int} (h : Right p) : Fermat.Pr p.toNat := by
  rcases h with rfl | rfl | rfl | rfl | rfl | rfl | rfl
  · exact Fermat.pr17
  · exact Fermat.pr97
  · exact Fermat.pr257
  · exact Fermat.pr3329
  · exact Fermat.pr7681
  · exact Fermat.pr12289
  · exact Fermat.pr8380417

def depGo (q n : Int) : Nat → Nat → Nat
  | 0, d => d
  | f + 1, d => if (q - 1) % 2 ^ (d + 2) = 0 ∧ (2 : Int) ^ (d + 1) ≤ n then depGo q n f (d + 1) else d
/-- How often a ring parts. -/
def dep (q n : Int) : Nat := depGo q n 9 0
/-- Is it a root? -/
def isRt (q : Int) (d : Nat) (h : Int) : Prop := h ^ 2 ^ d % q = q - 1
instance (q : Int) (d : Nat) (h : Int) : Decidable (isRt q d h) := by unfold isRt; infer_instance
/-- Some root, for each q and depth. -/
def wit (q : Int) (d : Nat) : Int :=
  if q = 17 then 3 ^ 2 ^ (3 - d) % 17 else if q = 97 then 28 ^ 2 ^ (4 - d) % 97 else if q = 257 then 3 ^ 2 ^ (7 - d) % 257 else if q = 3329 then 3061 ^ 2 ^ (7 - d) % 3329
  else if q = 7681 then 7146 ^ 2 ^ (8 - d) % 7681 else if q = 12289 then 3400 ^ 2 ^ (8 - d) % 12289 else 1921994 ^ 2 ^ (8 - d) % 8380417
def qs : List Int := [17, 97, 257, 3329, 7681, 12289, 8380417]
def ns : List Int := [4, 8, 16, 32, 64, 128, 256]
theorem right_qs {q : Int} (h : Right q) : q ∈ qs := by rcases h with rfl | rfl | rfl | rfl | rfl | rfl | rfl <;> simp [qs]
theorem deg_ns {n : Int} (h : Deg n) : n ∈ ns := by rcases h with rfl | rfl | rfl | rfl | rfl | rfl | rfl <;> simp [ns]
theorem dep_all : ∀ q ∈ qs, ∀ n ∈ ns, 1 ≤ dep q n ∧ dep q n ≤ 8 ∧ n.toNat = n.toNat / 2 ^ dep q n * 2 ^ dep q n ∧ 0 < n.toNat / 2 ^ dep q n ∧ isRt q (dep q n) (wit q (dep q n)) ∧ 2 ≤ wit q (dep q n) ∧ wit q (dep q n) < q ∧
    (q - 1) % 2 ^ (dep q n + 1) = 0 ∧ ¬ ((q - 1) % 2 ^ (dep q n + 2) = 0 ∧ (2 : Int) ^ (dep q n + 1) ≤ n) := by decide +kernel
theorem dep_ok {q n : Int} (hq : Right q) (hd : Deg n) : 1 ≤ dep q n ∧ dep q n ≤ 8 ∧ n.toNat = n.toNat / 2 ^ dep q n * 2 ^ dep q n ∧ 0 < n.toNat / 2 ^ dep q n ∧ isRt q (dep q n) (wit q (dep q n)) ∧ 2 ≤ wit q (dep q n) ∧ wit q (dep q n) < q ∧
    (q - 1) % 2 ^ (dep q n + 1) = 0 ∧ ¬ ((q - 1) % 2 ^ (dep q n + 2) = 0 ∧ (2 : Int) ^ (dep q n + 1) ≤ n) := dep_all q (right_qs hq) n (deg_ns hd)

theorem least {P : Nat → Prop} : ∀ n, P n → ∃ k, k ≤ n ∧ P k ∧ ∀ j, j < k → ¬ P j := by
  intro n
  induction n using Nat.strongRecOn with
  | _ n ih =>
    intro h
    by_cases hx : ∃ j, j < n ∧ P j
    · obtain ⟨j, hj, hp⟩ := hx
      obtain ⟨k, k1, k2, k3⟩ := ih j hj hp
      exact ⟨k, by omega, k2, k3⟩
    · exact ⟨n, Nat.le_refl n, h, fun j hj hp => hx ⟨j, hj, hp⟩⟩

open Classical in
/-- The least, from 2 on. -/
noncomputable def leastRt (q : Int) (d : Nat) : Nat := if h : ∃ k : Nat, isRt q d (2 + k) ∧ ∀ j : Nat, j < k → ¬ isRt q d (2 + j) then h.choose else 0
theorem leastRt_ok {q : Int} {d : Nat} {w : Int} (hw : isRt q d w) (h2 : 2 ≤ w) : isRt q d (2 + leastRt q d) ∧ (∀ j : Nat, j < leastRt q d → ¬ isRt q d (2 + j)) ∧ 2 + (leastRt q d : Int) ≤ w := by
  obtain ⟨k, k1, k2, k3⟩ := least (P := fun k : Nat => isRt q d (2 + k)) (w - 2).toNat (by rw [show (2 + ((w - 2).toNat : Int)) = w by omega]; exact hw)
  have hx : ∃ k : Nat, isRt q d (2 + k) ∧ ∀ j : Nat, j < k → ¬ isRt q d (2 + j) := ⟨k, k2, k3⟩
  unfold leastRt
  rw [dif_pos hx]
  obtain ⟨s1, s2⟩ := hx.choose_spec
  refine ⟨s1, s2, ?_⟩
  have : hx.choose ≤ k := by
    rcases Nat.lt_or_ge k hx.choose with h | h
    · exact absurd k2 (s2 k h)
    · exact h
  omega
/-- A ring's root. -/
noncomputable def rt (q n : Int) : Int := if q = 3329 ∧ n = 256 then 17 else if q = 8380417 ∧ n = 256 then 1753 else 2 + leastRt q (dep q n)
theorem rt_isRt {q n : Int} (hq : Right q) (hd : Deg n) : isRt q (dep q n) (rt q n) ∧ 2 ≤ rt q n ∧ rt q n < q := by
  obtain ⟨_, _, _, _, h5, h6, h7, _, _⟩ := dep_ok hq hd
  unfold rt
  split
  · rename_i h
    obtain ⟨rfl, rfl⟩ := h
    decide +kernel
  · split
    · rename_i h
      obtain ⟨rfl, rfl⟩ := h
      decide +kernel
    · obtain ⟨l1, l2, l3⟩ := leastRt_ok h5 h6
      exact ⟨l1, by omega, by omega⟩
/-- How long the least parts are. -/
def mlen (q n : Int) : Nat := n.toNat / 2 ^ dep q n
theorem ntt_ring {q n : Int} (hq : Right q) (hd : Deg n) : NRing q n.toNat (dep q n) (mlen q n) (rt q n) := by
  obtain ⟨_, _, h3, h4, _⟩ := dep_ok hq hd
  have lo := hq.lo
  refine ⟨by omega, h4, h3, ?_⟩
  have h := (rt_isRt hq hd).1
  unfold isRt at h
  unfold Eqm
  rw [h, show (-1 : Int) = (q - 1) + q * (-1) by omega, Int.add_mul_emod_self_left]
  exact (Int.emod_eq_of_lt (by omega) (by omega)).symm

theorem nDepth {q n : Int} (hq : Right q) (hd : Deg n) : FF tab 57 [(.ag [.i .i64 (q), .i .i64 (n)])] = some ⟨.i .i64 (dep q n), []⟩ := by
  rcases hq with rfl | rfl | rfl | rfl | rfl | rfl | rfl <;> rcases hd with rfl | rfl | rfl | rfl | rfl | rfl | rfl <;> exact FF_of (n := 60) (by kernel_rfl)

theorem binInts2 (a b c d : Int) : binV (.ints 2) .eql (.ag [.i .i64 a, .i .i64 b]) (.ag [.i .i64 c, .i .i64 d]) = some (.b (decide (a = c) && decide (b = d))) := by
  simp [binV, eqlV, sameInts]
theorem root_some {q : Int} {d : Nat} (i : Int) : isRt q d i ↔ i ^ 2 ^ d % q = q - 1 := Iff.rfl
set_option maxHeartbeats 2000000 in
theorem nRoot {q n : Int} (hq : Right q) (hd : Deg n) : FF tab 36 [(.ag [.i .i64 (q), .i .i64 (n)])] = some ⟨.tp [.i .i64 (rt q n), .i .i64 (dep q n), .nl], []⟩ := by
  refine call_by (A := A36) rfl rfl ?_
  have hV := rValid q n
  rw [show valid q n = 0 from if_pos ⟨hq, hd⟩, show errV 0 = .nl from rfl] at hV
  have hD := nDepth hq hd
  have lo := hq.lo
  have hi := hq.hi
  obtain ⟨d1, d2, _, _, h5, h6, h7, _, _⟩ := dep_ok hq hd
  by_cases c1 : q = 3329 ∧ n = 256
  · obtain ⟨rfl, rfl⟩ := c1
    rw [show rt 3329 256 = 17 from if_pos ⟨rfl, rfl⟩]
    generalize dep 3329 256 = D at *
    simp (disch := first | assumption | omega | (simp only [List.length_cons, List.length_nil, List.length_set, List.length_append, List.length_replicate, List.length_map, List.length_range, List.length_take, List.length_drop, nums_length, bools_length, vecs_length]; first | done | omega)) [A36, hV, hD, binInts2]
  · by_cases c2 : q = 8380417 ∧ n = 256
    · obtain ⟨rfl, rfl⟩ := c2
      rw [show rt 8380417 256 = 1753 from by unfold rt; rw [if_neg (by omega), if_pos ⟨rfl, rfl⟩]]
      generalize dep 8380417 256 = D at *
      simp (disch := first | assumption | omega | (simp only [List.length_cons, List.length_nil, List.length_set, List.length_append, List.length_replicate, List.length_map, List.length_range, List.length_take, List.length_drop, nums_length, bools_length, vecs_length]; first | done | omega)) [A36, hV, hD, binInts2]
    · have hr : rt q n = 2 + leastRt q (dep q n) := by unfold rt; rw [if_neg c1, if_neg c2]
      rw [hr]
      obtain ⟨l1, l2, l3⟩ := leastRt_ok h5 h6
      generalize wit q (dep q n) = w at *
      generalize dep q n = D at *
      have e1 : (decide (q = 3329) && decide (n = 256)) = false := by
        rw [Bool.and_eq_false_iff, decide_eq_false_iff_not, decide_eq_false_iff_not]; omega
      have e2 : (decide (q = 8380417) && decide (n = 256)) = false := by
        rw [Bool.and_eq_false_iff, decide_eq_false_iff_not, decide_eq_false_iff_not]; omega
      have sh := shl_one (d := D) (by omega)
      have wq : IntKind.i64.wrap (q - 1) = q - 1 := i64_in _ (by omega)
      have hp : (2 ^ D : Nat) ≤ 2 ^ 8 := pow_le d2
      have hno : ∀ i : Nat, i < leastRt q D → ¬ (2 + (i : Int)) ^ 2 ^ D % q = q - 1 := fun i h => l2 i h
      have hyes : (2 + (leastRt q D : Int)) ^ 2 ^ D % q = q - 1 := l1
      clear l1 l2 hr h5 h6
      generalize leastRt q D = R at *
      generalize 2 ^ D = Q at *
      have hst : ∀ i : Nat, FF tab 75 [.i .i64 (2 + i), .i .i64 (Q : Int), .i .i64 q] = some ⟨.i .i64 ((2 + (i : Int)) ^ Q % q), []⟩ := fun i => by
        have := Pow (2 + (i : Int)) hq (e := (Q : Int)) (by omega) (by omega)
        rwa [Int.toNat_natCast] at this
      simp (disch := first | assumption | omega | (simp only [List.length_cons, List.length_nil, List.length_set, List.length_append, List.length_replicate, List.length_map, List.length_range, List.length_take, List.length_drop, nums_length, bools_length, vecs_length]; first | done | omega)) [A36, hV, hD, binInts2, e1, e2, -shiftV_shl, -shiftV_shr]
      refine w_heads R (fun i => ⟨[(7, .i .i64 (2 + i)), (6, .i .i64 D), (1, .rf 1 0)], [(1, [.i .i64 q, .i .i64 n])]⟩) (by simp (disch := first | assumption | omega | (simp only [List.length_cons, List.length_nil, List.length_set, List.length_append, List.length_replicate, List.length_map, List.length_range, List.length_take, List.length_drop, nums_length, bools_length, vecs_length]; first | done | omega)) []) ?_ ?_
      · intro i hi'
        have h1 := hst i
        have h2 := hno i hi'
        have w1 : IntKind.i64.wrap (2 + (i : Int) + 1) = 2 + ((i : Int) + 1) := by rw [i64_in _ (by omega)]; omega
        generalize (2 + (i : Int)) ^ Q % q = V at *
        generalize hT : (i : Int) = I at *
        simp (disch := first | assumption | omega | (simp only [List.length_cons, List.length_nil, List.length_set, List.length_append, List.length_replicate, List.length_map, List.length_range, List.length_take, List.length_drop, nums_length, bools_length, vecs_length]; first | done | omega)) [sh, h1, h2, wq, w1, hT, -shiftV_shl, -shiftV_shr]
      · have h1 := hst R
        rw [hyes] at h1
        generalize (R : Int) = I at *
        simp (disch := first | assumption | omega | (simp only [List.length_cons, List.length_nil, List.length_set, List.length_append, List.length_replicate, List.length_map, List.length_range, List.length_take, List.length_drop, nums_length, bools_length, vecs_length]; first | done | omega)) [sh, h1, wq, -shiftV_shl, -shiftV_shr]

theorem nRev {i b : Nat} (hb : b ≤ 20) (hi : i < 2 ^ 40) : FF tab 74 [.i .i64 i, .i .i64 b] = some ⟨.i .i64 (revN b i), []⟩ := by
  refine call_by (A := A74) rfl rfl ?_
  have c1 : ¬ (b : Int) < 0 := by omega
  have c2 : ¬ (20 : Int) < (b : Int) := by omega
  simp (disch := first | assumption | omega | (simp only [List.length_cons, List.length_nil, List.length_set, List.length_append, List.length_replicate, List.length_map, List.length_range, List.length_take, List.length_drop, nums_length, bools_length, vecs_length]; first | done | omega)) [A74, c1, c2, -shiftV_shl, -shiftV_shr]
  refine w_heads b (fun k => ⟨[(13, .i .i64 k), (12, .i .i64 b), (5, .i .i64 (revN k i)), (0, .i .i64 ((i / 2 ^ k : Nat) : Int))], []⟩) (by simp (disch := first | assumption | omega | (simp only [List.length_cons, List.length_nil, List.length_set, List.length_append, List.length_replicate, List.length_map, List.length_range, List.length_take, List.length_drop, nums_length, bools_length, vecs_length]; first | done | omega)) [revN]) ?_ ?_
  · intro k hk
    have w1 : IntKind.i64.wrap ((k : Int) + 1) = (k : Int) + 1 := i64_in _ (by omega)
    have hlt := revN_lt i k
    have hp : 2 ^ k ≤ 2 ^ 20 := pow_le (by omega)
    have hdv : i / 2 ^ k ≤ i := Nat.div_le_self _ _
    have s1 := shl_by (a := revN k i) (d := 1) (by omega) (by omega)
    have a1 := and_one (a := i / 2 ^ k) (by omega)
    have o1 := or_low (a := revN k i) (b := i / 2 ^ k % 2) (i := 1) (by omega) (by omega)
    have s2 := shr_by (a := i / 2 ^ k) (d := 1) (by omega)
    have e1 : revN k i * 2 ^ 1 + i / 2 ^ k % 2 = revN (k + 1) i := by simp only [revN]; omega
    have e2 : i / 2 ^ k / 2 ^ 1 = i / 2 ^ (k + 1) := by rw [Nat.div_div_eq_div_mul, ← Nat.pow_add]
    rw [e1] at o1
    rw [e2] at s2
    have hkb : (k : Int) < (b : Int) := by omega
    generalize i / 2 ^ (k + 1) = I' at *
    generalize revN (k + 1) i = R' at *
    generalize i / 2 ^ k % 2 = M at *
    generalize i / 2 ^ k = I at *
    generalize revN k i * 2 ^ 1 = RR at *
    generalize revN k i = R at *
    simp only [show ((1 : Nat) : Int) = 1 from rfl] at s1 s2
    generalize hT : (k : Int) = K at *
    simp (disch := first | assumption | omega | (simp only [List.length_cons, List.length_nil, List.length_set, List.length_append, List.length_replicate, List.length_map, List.length_range, List.length_take, List.length_drop, nums_length, bools_length, vecs_length]; first | done | omega)) [s1, a1, o1, s2, w1, hkb, hT, -shiftV_shl, -shiftV_shr]
  · simp (disch := first | assumption | omega | (simp only [List.length_cons, List.length_nil, List.length_set, List.length_append, List.length_replicate, List.length_map, List.length_range, List.length_take, List.length_drop, nums_length, bools_length, vecs_length]; first | done | omega)) []

/-- By what parts are parted, in order. -/
noncomputable def rootsL (q n : Int) : List Int := (List.range (2 ^ dep q n)).map fun k => rt q n ^ revN (dep q n) k % q
theorem rootsL_len (q n : Int) : (rootsL q n).length = 2 ^ dep q n := by simp [rootsL]
theorem rootsL_ni (q n : Int) {k : Nat} (h : k < 2 ^ dep q n) : ni (rootsL q n) k = rt q n ^ revN (dep q n) k % q := ni_map h
theorem nRoots {q n : Int} (hq : Right q) (hd : Deg n) : FF tab 84 [(.ag [.i .i64 (q), .i .i64 (n)])] = some ⟨.tp [.os (nums .i64 (rootsL q n)) (2 ^ dep q n) 1, .i .i64 (dep q n), .nl], []⟩ := by
  refine call_by (A := A84) rfl rfl ?_
  have hR := nRoot hq hd
  obtain ⟨d1, d2, _⟩ := dep_ok hq hd
  unfold rootsL
  generalize rt q n = g at *
  generalize dep q n = D at *
  have sh := shl_one (d := D) (by omega)
  have hp : 2 ^ D ≤ 2 ^ 8 := pow_le d2
  have hrev : ∀ k : Nat, k < 2 ^ D → FF tab 74 [.i .i64 k, .i .i64 D] = some ⟨.i .i64 (revN D k), []⟩ := fun k hk => nRev (by omega) (by omega)
  have hpow : ∀ k : Nat, k < 2 ^ D → FF tab 75 [.i .i64 g, .i .i64 (revN D k), .i .i64 q] = some ⟨.i .i64 (g ^ revN D k % q), []⟩ := fun k hk => by
    have hl := revN_lt k D
    have := Pow g hq (e := (revN D k : Int)) (by omega) (by omega)
    rwa [Int.toNat_natCast] at this
  generalize 2 ^ D = Q at *
  simp (disch := first | assumption | omega | (simp only [List.length_cons, List.length_nil, List.length_set, List.length_append, List.length_replicate, List.length_map, List.length_range, List.length_take, List.length_drop, nums_length, bools_length, vecs_length]; first | done | omega)) [A84, hR, sh, -shiftV_shl, -shiftV_shr]
  refine w_heads Q (fun k => ⟨[(21, .i .i64 k), (20, .i .i64 Q), (8, .rs 8 0 k 1), (6, .i .i64 D), (5, .i .i64 g), (1, .rf 1 0)], [(8, nums .i64 ((List.range k).map fun k => g ^ revN D k % q)), (1, [.i .i64 q, .i .i64 n])]⟩) (by simp (disch := first | assumption | omega | (simp only [List.length_cons, List.length_nil, List.length_set, List.length_append, List.length_replicate, List.length_map, List.length_range, List.length_take, List.length_drop, nums_length, bools_length, vecs_length]; first | done | omega)) [nums_nil]) ?_ ?_
  · intro k hk
    have w1 : IntKind.i64.wrap ((k : Int) + 1) = (k : Int) + 1 := i64_in _ (by omega)
    have h1 := hrev k hk
    have h2 := hpow k hk
    have hmp := mapTo_succ (fun k => g ^ revN D k % q) k
    have hml : (nums .i64 ((List.range k).map fun k => g ^ revN D k % q)).length = k := by simp [nums]
    have hsn := nums_snoc .i64 ((List.range k).map fun k => g ^ revN D k % q) (g ^ revN D k % q)
    rw [← hmp] at hsn
    have hlt : (k : Int) < (Q : Int) := by omega
    generalize hT : (k : Int) = T at *
    generalize g ^ revN D k % q = V at *
    generalize revN D k = W at *
    generalize nums .i64 ((List.range k).map fun k => g ^ revN D k % q) = F at *
    generalize nums .i64 ((List.range (k + 1)).map fun k => g ^ revN D k % q) = F' at *
    clear hmp hrev hpow
    simp (disch := first | assumption | omega | (simp only [List.length_cons, List.length_nil, List.length_set, List.length_append, List.length_replicate, List.length_map, List.length_range, List.length_take, List.length_drop, nums_length, bools_length, vecs_length]; first | done | omega)) [h1, h2, w1, hT, hsn, hlt, -shiftV_shl, -shiftV_shr]
  · have hml : (nums .i64 ((List.range Q).map fun k => g ^ revN D k % q)).length = Q := by simp [nums]
    generalize nums .i64 ((List.range Q).map fun k => g ^ revN D k % q) = F at *
    simp (disch := first | assumption | omega | (simp only [List.length_cons, List.length_nil, List.length_set, List.length_append, List.length_replicate, List.length_map, List.length_range, List.length_take, List.length_drop, nums_length, bools_length, vecs_length]; first | done | omega)) []
end Zab.YtcebddjidpbhgaaDoorB
