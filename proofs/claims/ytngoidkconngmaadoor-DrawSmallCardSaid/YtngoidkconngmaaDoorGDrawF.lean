/- The law of small numbers, balls and masks. -/
import Derived.Test.YtngoidkconngmaaDoorZabY
import Derived.Test.YtngoidkconngmaaDoorGDrawD
import Derived.Test.YtngoidkconngmaaDoorGDrawN
import Derived.Test.YtngoidkconngmaaDoorGDrawO
import Derived.Test.YtngoidkconngmaaDoorGSee
namespace Zab.YtngoidkconngmaaDoorG
open Go
open Go.IntWalk (i64_in)
set_option maxRecDepth 100000
set_option linter.unusedSimpArgs false
set_option linter.unusedVariables false
attribute [-simp] getElem?_pos

theorem ball_ends {L : List Int} (h : ∀ y ∈ L, inK .u8 y) (hl : L.length ≤ 102) (a : Nat) : ∃ p : Nat → Nat, ∀ m, IsJ (bt 136 (padS 136 31 (takeL 136 (zL 25, 0) L))) (a + m) (bq p m) (p m) :=
  ball_ex (fun q => zeros1 (X := 31) (by omega) (by omega) (bytes_in h) hl q) a
theorem nil_isL : IsL .i64 .z [] := .inr ⟨rfl, rfl⟩
theorem range_is : FF tab 29 [.er 1, .i .i64 101] = some ⟨.b true, []⟩ := SeeIs (c := 101) (by simp [Code]) 101
theorem pSmallE {e n : Int} {x : AV} (fx : x.flat = true) (he : ¬ e = 2) (he4 : ¬ e = 4) : FF tab 47 [.i .i64 e, x, .i .i64 n] = some ⟨.tp [.z, .er 1], []⟩ := by
  refine call_by (A := A47) rfl rfl ?_
  simp (disch := first | assumption | omega | (simp only [List.length_cons, List.length_nil, List.length_set, List.length_append, List.length_replicate, List.length_map, List.length_range, List.length_take, List.length_drop, nums_length, bools_length, vecs_length]; first | done | omega)) [A47, he, he4]
theorem pSmallN {e n : Int} {x : AV} (fx : x.flat = true) (hn : n < 0 ∨ 65535 < n) : FF tab 47 [.i .i64 e, x, .i .i64 n] = some ⟨.tp [.z, .er 1], []⟩ := by
  by_cases he : e = 2
  · subst he
    refine call_by (A := A47) rfl rfl ?_
    by_cases h1 : n < 0
    · simp (disch := first | assumption | omega | (simp only [List.length_cons, List.length_nil, List.length_set, List.length_append, List.length_replicate, List.length_map, List.length_range, List.length_take, List.length_drop, nums_length, bools_length, vecs_length]; first | done | omega)) [A47, h1]
    · have h2 := hn.resolve_left h1
      clear hn
      simp (disch := first | assumption | omega | (simp only [List.length_cons, List.length_nil, List.length_set, List.length_append, List.length_replicate, List.length_map, List.length_range, List.length_take, List.length_drop, nums_length, bools_length, vecs_length]; first | done | omega)) [A47, h1, h2]
  · by_cases he4 : e = 4
    · subst he4
      refine call_by (A := A47) rfl rfl ?_
      by_cases h1 : n < 0
      · simp (disch := first | assumption | omega | (simp only [List.length_cons, List.length_nil, List.length_set, List.length_append, List.length_replicate, List.length_map, List.length_range, List.length_take, List.length_drop, nums_length, bools_length, vecs_length]; first | done | omega)) [A47, h1]
      · have h2 := hn.resolve_left h1
        clear hn
        simp (disch := first | assumption | omega | (simp only [List.length_cons, List.length_nil, List.length_set, List.length_append, List.length_replicate, List.length_map, List.length_range, List.length_take, List.length_drop, nums_length, bools_length, vecs_length]; first | done | omega)) [A47, h1, h2]
    · exact pSmallE fx he he4
theorem pBallE {t : Int} {x : AV} (fx : x.flat = true) (ht : t < 1 ∨ 64 < t) : FF tab 48 [.i .i64 t, x] = some ⟨.tp [.z, .er 1], []⟩ := by
  refine call_by (A := A48) rfl rfl ?_
  by_cases h1 : t < 1
  · simp (disch := first | assumption | omega | (simp only [List.length_cons, List.length_nil, List.length_set, List.length_append, List.length_replicate, List.length_map, List.length_range, List.length_take, List.length_drop, nums_length, bools_length, vecs_length]; first | done | omega)) [A48, h1]
  · have h2 := ht.resolve_left h1
    clear ht
    simp (disch := first | assumption | omega | (simp only [List.length_cons, List.length_nil, List.length_set, List.length_append, List.length_replicate, List.length_map, List.length_range, List.length_take, List.length_drop, nums_length, bools_length, vecs_length]; first | done | omega)) [A48, h1, h2]
theorem pMaskE {g n : Int} {x : AV} (fx : x.flat = true) (hg : ¬ g = 131072) (hg2 : ¬ g = 524288) : FF tab 49 [.i .i64 g, x, .i .i64 n] = some ⟨.tp [.z, .er 1], []⟩ := by
  refine call_by (A := A49) rfl rfl ?_
  simp (disch := first | assumption | omega | (simp only [List.length_cons, List.length_nil, List.length_set, List.length_append, List.length_replicate, List.length_map, List.length_range, List.length_take, List.length_drop, nums_length, bools_length, vecs_length]; first | done | omega)) [A49, hg, hg2]
theorem pMaskN {g n : Int} {x : AV} (fx : x.flat = true) (hn : n < 0 ∨ 65535 < n) : FF tab 49 [.i .i64 g, x, .i .i64 n] = some ⟨.tp [.z, .er 1], []⟩ := by
  by_cases he : g = 131072
  · subst he
    refine call_by (A := A49) rfl rfl ?_
    by_cases h1 : n < 0
    · simp (disch := first | assumption | omega | (simp only [List.length_cons, List.length_nil, List.length_set, List.length_append, List.length_replicate, List.length_map, List.length_range, List.length_take, List.length_drop, nums_length, bools_length, vecs_length]; first | done | omega)) [A49, h1]
    · have h2 := hn.resolve_left h1
      clear hn
      simp (disch := first | assumption | omega | (simp only [List.length_cons, List.length_nil, List.length_set, List.length_append, List.length_replicate, List.length_map, List.length_range, List.length_take, List.length_drop, nums_length, bools_length, vecs_length]; first | done | omega)) [A49, h1, h2]
  · by_cases he4 : g = 524288
    · subst he4
      refine call_by (A := A49) rfl rfl ?_
      by_cases h1 : n < 0
      · simp (disch := first | assumption | omega | (simp only [List.length_cons, List.length_nil, List.length_set, List.length_append, List.length_replicate, List.length_map, List.length_range, List.length_take, List.length_drop, nums_length, bools_length, vecs_length]; first | done | omega)) [A49, h1]
      · have h2 := hn.resolve_left h1
        clear hn
        simp (disch := first | assumption | omega | (simp only [List.length_cons, List.length_nil, List.length_set, List.length_append, List.length_replicate, List.length_map, List.length_range, List.length_take, List.length_drop, nums_length, bools_length, vecs_length]; first | done | omega)) [A49, h1, h2]
    · exact pMaskE fx he he4
set_option maxHeartbeats 32000000 in
theorem DrawSmall (e : Int) (he : inK .i64 e) (t : Int) (ht : inK .i64 t) (g : Int) (hg : inK .i64 g) (x : AV) (L : List Int) (hxN : IsNums .u8 x L) (n : Int) (hn : inK .i64 n) :
    FF tab 10 [.i .i64 e, .i .i64 t, .i .i64 g, x, .i .i64 n] = some ⟨.b true, []⟩ := by
  have hx := hxN.isL
  have fx := hx.flat
  have lx := lenV_isL hx
  by_cases hl : (100 : Int) < L.length
  · refine call_by (A := A10) rfl rfl ?_
    simp (disch := first | assumption | omega | (simp only [List.length_cons, List.length_nil, List.length_set, List.length_append, List.length_replicate, List.length_map, List.length_range, List.length_take, List.length_drop, nums_length, bools_length, vecs_length]; first | done | omega)) [A10, first9, lx, hl]
  have hB : Bys L := ⟨hxN.2, by omega⟩
  have rg := range_is
  have cB : (∃ B : List Int, B.length = 256 ∧ (¬ t < 1) ∧ (¬ 64 < t) ∧ FF tab 48 [.i .i64 t, x] = some ⟨.tp [.os (nums .i64 B) 256 1, .nl], []⟩ ∧ FF tab 51 [.i .i64 t, x] = some ⟨.os (nums .i64 B) 256 1, []⟩ ∧ FF tab 18 [.sl (nums .i64 B) 256, .sl (nums .i64 B) 256] = some ⟨.b true, []⟩)
      ∨ (t < 1 ∧ FF tab 48 [.i .i64 t, x] = some ⟨.tp [.z, .er 1], []⟩) ∨ (¬ t < 1 ∧ 64 < t ∧ FF tab 48 [.i .i64 t, x] = some ⟨.tp [.z, .er 1], []⟩) := by
    by_cases t1 : t < 1
    · exact .inr (.inl ⟨t1, pBallE fx (.inl t1)⟩)
    by_cases t2 : 64 < t
    · exact .inr (.inr ⟨t1, t2, pBallE fx (.inr t2)⟩)
    obtain ⟨T, hT⟩ : ∃ T : Nat, (T : Int) = t := ⟨t.toNat, by omega⟩
    obtain ⟨p, hp⟩ := ball_ends hxN.2 (by omega) (256 - T)
    have h1 := pBall hx hB (tau := T) (by omega) (by omega) rfl (p := p) (fun m _ => hp m)
    have h2 := dBall hx hB (tau := T) (by omega) (by omega) rfl (p := p) (fun m _ => hp m)
    have bl := bo_len (bt 136 (padS 136 31 (takeL 136 (zL 25, 0) L))) (sgn (bt 136 (padS 136 31 (takeL 136 (zL 25, 0) L))) 8) T p T
    rw [hT] at h1 h2
    have hI : IsL .i64 (.sl (nums .i64 (bo (bt 136 (padS 136 31 (takeL 136 (zL 25, 0) L))) (sgn (bt 136 (padS 136 31 (takeL 136 (zL 25, 0) L))) 8) T p T)) 256) (bo (bt 136 (padS 136 31 (takeL 136 (zL 25, 0) L))) (sgn (bt 136 (padS 136 31 (takeL 136 (zL 25, 0) L))) 8) T p T) := .inl (by show _ = AV.sl _ _; rw [bl])
    have h3 := SameInts hI hI (by omega)
    rw [decide_eq_true rfl] at h3
    exact .inl ⟨_, bl, t1, t2, h1, h2, h3⟩
  -- what is far
  by_cases f1 : n < 0
  · have hS := pSmallN (e := e) fx (.inl f1)
    have hM := pMaskN (g := g) fx (.inl f1)
    refine call_by (A := A10) rfl rfl ?_
    rcases cB with ⟨B, bl, t1, t2, hb, db, sb⟩ | ⟨t1, hb⟩ | ⟨t1, t2, hb⟩
    · simp (disch := first | assumption | omega | (simp only [List.length_cons, List.length_nil, List.length_set, List.length_append, List.length_replicate, List.length_map, List.length_range, List.length_take, List.length_drop, nums_length, bools_length, vecs_length]; first | done | omega)) [A10, first9, lx, hl, f1, hS, hM, rg, bl, t1, t2, hb, db, sb]
    · simp (disch := first | assumption | omega | (simp only [List.length_cons, List.length_nil, List.length_set, List.length_append, List.length_replicate, List.length_map, List.length_range, List.length_take, List.length_drop, nums_length, bools_length, vecs_length]; first | done | omega)) [A10, first9, lx, hl, f1, hS, hM, rg, t1, hb]
    · simp (disch := first | assumption | omega | (simp only [List.length_cons, List.length_nil, List.length_set, List.length_append, List.length_replicate, List.length_map, List.length_range, List.length_take, List.length_drop, nums_length, bools_length, vecs_length]; first | done | omega)) [A10, first9, lx, hl, f1, hS, hM, rg, t1, t2, hb]
  by_cases f2 : 65535 < n
  · have hS := pSmallN (e := e) fx (.inr f2)
    have hM := pMaskN (g := g) fx (.inr f2)
    refine call_by (A := A10) rfl rfl ?_
    rcases cB with ⟨B, bl, t1, t2, hb, db, sb⟩ | ⟨t1, hb⟩ | ⟨t1, t2, hb⟩
    · simp (disch := first | assumption | omega | (simp only [List.length_cons, List.length_nil, List.length_set, List.length_append, List.length_replicate, List.length_map, List.length_range, List.length_take, List.length_drop, nums_length, bools_length, vecs_length]; first | done | omega)) [A10, first9, lx, hl, f1, f2, hS, hM, rg, bl, t1, t2, hb, db, sb]
    · simp (disch := first | assumption | omega | (simp only [List.length_cons, List.length_nil, List.length_set, List.length_append, List.length_replicate, List.length_map, List.length_range, List.length_take, List.length_drop, nums_length, bools_length, vecs_length]; first | done | omega)) [A10, first9, lx, hl, f1, f2, hS, hM, rg, t1, hb]
    · simp (disch := first | assumption | omega | (simp only [List.length_cons, List.length_nil, List.length_set, List.length_append, List.length_replicate, List.length_map, List.length_range, List.length_take, List.length_drop, nums_length, bools_length, vecs_length]; first | done | omega)) [A10, first9, lx, hl, f1, f2, hS, hM, rg, t1, t2, hb]
  have n0 : 0 ≤ n := by omega
  have n1 : n ≤ 65535 := by omega
  have l0 := lo_in (n := n)
  have g0 := hi_in n0 n1
  have hin := app_in hxN.2 (two_in l0.1 l0.2 g0.1 g0.2).byte
  have hll : (L ++ [n % 256, n / 256]).length ≤ 102 := by simp only [List.length_append, List.length_cons, List.length_nil]; omega
  have cS : (∃ S : List Int, S.length = 256 ∧ (e = 2 ∨ e = 4) ∧ FF tab 47 [.i .i64 e, x, .i .i64 n] = some ⟨.tp [.os (nums .i64 S) 256 1, .nl], []⟩ ∧ FF tab 50 [.i .i64 e, x, .i .i64 n] = some ⟨.os (nums .i64 S) 256 1, []⟩ ∧ FF tab 18 [.sl (nums .i64 S) 256, .sl (nums .i64 S) 256] = some ⟨.b true, []⟩)
      ∨ (¬ e = 2 ∧ ¬ e = 4 ∧ FF tab 47 [.i .i64 e, x, .i .i64 n] = some ⟨.tp [.z, .er 1], []⟩) := by
    by_cases h : e = 2 ∨ e = 4
    · obtain ⟨N, s1, s2⟩ := sml_ends hin hll e
      have h1 := pSmall hx hB h n0 n1 s1 s2
      have h2 := dSmall hx hB h n0 n1 s1 s2
      have hI : IsL .i64 (.sl (nums .i64 (sml e (stF 136 (L ++ [n % 256, n / 256])) N)) 256) (sml e (stF 136 (L ++ [n % 256, n / 256])) N) := .inl (by show _ = AV.sl _ _; rw [s1])
      have h3 := SameInts hI hI (by omega)
      rw [decide_eq_true rfl] at h3
      exact .inl ⟨_, s1, h, h1, h2, h3⟩
    · exact .inr ⟨fun h1 => h (.inl h1), fun h1 => h (.inr h1), pSmallE fx (fun h1 => h (.inl h1)) (fun h1 => h (.inr h1))⟩
  have cM : (∃ M : List Int, M.length = 256 ∧ (g = 131072 ∨ g = 524288) ∧ FF tab 49 [.i .i64 g, x, .i .i64 n] = some ⟨.tp [.sl (nums .i64 M) 256, .nl], []⟩ ∧ FF tab 52 [.i .i64 g, x, .i .i64 n] = some ⟨.sl (nums .i64 M) 256, []⟩ ∧ FF tab 18 [.sl (nums .i64 M) 256, .sl (nums .i64 M) 256] = some ⟨.b true, []⟩)
      ∨ (¬ g = 131072 ∧ ¬ g = 524288 ∧ FF tab 49 [.i .i64 g, x, .i .i64 n] = some ⟨.tp [.z, .er 1], []⟩) := by
    by_cases h : g = 131072 ∨ g = 524288
    · obtain ⟨d, hd⟩ : ∃ d, Gam g d := by
        rcases h with h | h
        · exact ⟨18, .inl ⟨h, rfl⟩⟩
        · exact ⟨20, .inr ⟨h, rfl⟩⟩
      have h1 := pMask hd hx hB n0 n1
      have h2 := dMask hd hx hB n0 n1
      have ml := sgnL_len g d (val (mskB d (L ++ [n % 256, n / 256]))) 256
      have hI : IsL .i64 (.sl (nums .i64 (sgnL g d (val (mskB d (L ++ [n % 256, n / 256]))) 256)) 256) (sgnL g d (val (mskB d (L ++ [n % 256, n / 256]))) 256) := .inl (by show _ = AV.sl _ _; rw [ml])
      have h3 := SameInts hI hI (by omega)
      rw [decide_eq_true rfl] at h3
      exact .inl ⟨_, ml, h, h1, h2, h3⟩
    · exact .inr ⟨fun h1 => h (.inl h1), fun h1 => h (.inr h1), pMaskE fx (fun h1 => h (.inl h1)) (fun h1 => h (.inr h1))⟩
  clear hin hll l0 g0 hB
  refine call_by (A := A10) rfl rfl ?_
  rcases cB with ⟨B, bl, t1, t2, hb, db, sb⟩ | ⟨t1, hb⟩ | ⟨t1, t2, hb⟩
  · rcases cS with ⟨S, sl, rfl | rfl, hs, ds, ss⟩ | ⟨e1, e2, hs⟩
    · rcases cM with ⟨M, ml, rfl | rfl, hm, dm, sm⟩ | ⟨g1, g2, hm⟩
      · simp (disch := first | assumption | omega | (simp only [List.length_cons, List.length_nil, List.length_set, List.length_append, List.length_replicate, List.length_map, List.length_range, List.length_take, List.length_drop, nums_length, bools_length, vecs_length]; first | done | omega)) [A10, first9, lx, hl, f1, f2, rg, bl, t1, t2, hb, db, sb, sl, hs, ds, ss, ml, hm, dm, sm]
      · simp (disch := first | assumption | omega | (simp only [List.length_cons, List.length_nil, List.length_set, List.length_append, List.length_replicate, List.length_map, List.length_range, List.length_take, List.length_drop, nums_length, bools_length, vecs_length]; first | done | omega)) [A10, first9, lx, hl, f1, f2, rg, bl, t1, t2, hb, db, sb, sl, hs, ds, ss, ml, hm, dm, sm]
      · simp (disch := first | assumption | omega | (simp only [List.length_cons, List.length_nil, List.length_set, List.length_append, List.length_replicate, List.length_map, List.length_range, List.length_take, List.length_drop, nums_length, bools_length, vecs_length]; first | done | omega)) [A10, first9, lx, hl, f1, f2, rg, bl, t1, t2, hb, db, sb, sl, hs, ds, ss, g1, g2, hm]
    · rcases cM with ⟨M, ml, rfl | rfl, hm, dm, sm⟩ | ⟨g1, g2, hm⟩
      · simp (disch := first | assumption | omega | (simp only [List.length_cons, List.length_nil, List.length_set, List.length_append, List.length_replicate, List.length_map, List.length_range, List.length_take, List.length_drop, nums_length, bools_length, vecs_length]; first | done | omega)) [A10, first9, lx, hl, f1, f2, rg, bl, t1, t2, hb, db, sb, sl, hs, ds, ss, ml, hm, dm, sm]
      · simp (disch := first | assumption | omega | (simp only [List.length_cons, List.length_nil, List.length_set, List.length_append, List.length_replicate, List.length_map, List.length_range, List.length_take, List.length_drop, nums_length, bools_length, vecs_length]; first | done | omega)) [A10, first9, lx, hl, f1, f2, rg, bl, t1, t2, hb, db, sb, sl, hs, ds, ss, ml, hm, dm, sm]
      · simp (disch := first | assumption | omega | (simp only [List.length_cons, List.length_nil, List.length_set, List.length_append, List.length_replicate, List.length_map, List.length_range, List.length_take, List.length_drop, nums_length, bools_length, vecs_length]; first | done | omega)) [A10, first9, lx, hl, f1, f2, rg, bl, t1, t2, hb, db, sb, sl, hs, ds, ss, g1, g2, hm]
    · rcases cM with ⟨M, ml, rfl | rfl, hm, dm, sm⟩ | ⟨g1, g2, hm⟩
      · simp (disch := first | assumption | omega | (simp only [List.length_cons, List.length_nil, List.length_set, List.length_append, List.length_replicate, List.length_map, List.length_range, List.length_take, List.length_drop, nums_length, bools_length, vecs_length]; first | done | omega)) [A10, first9, lx, hl, f1, f2, rg, bl, t1, t2, hb, db, sb, e1, e2, hs, ml, hm, dm, sm]
      · simp (disch := first | assumption | omega | (simp only [List.length_cons, List.length_nil, List.length_set, List.length_append, List.length_replicate, List.length_map, List.length_range, List.length_take, List.length_drop, nums_length, bools_length, vecs_length]; first | done | omega)) [A10, first9, lx, hl, f1, f2, rg, bl, t1, t2, hb, db, sb, e1, e2, hs, ml, hm, dm, sm]
      · simp (disch := first | assumption | omega | (simp only [List.length_cons, List.length_nil, List.length_set, List.length_append, List.length_replicate, List.length_map, List.length_range, List.length_take, List.length_drop, nums_length, bools_length, vecs_length]; first | done | omega)) [A10, first9, lx, hl, f1, f2, rg, bl, t1, t2, hb, db, sb, e1, e2, hs, g1, g2, hm]
  · rcases cS with ⟨S, sl, rfl | rfl, hs, ds, ss⟩ | ⟨e1, e2, hs⟩
    · rcases cM with ⟨M, ml, rfl | rfl, hm, dm, sm⟩ | ⟨g1, g2, hm⟩
      · simp (disch := first | assumption | omega | (simp only [List.length_cons, List.length_nil, List.length_set, List.length_append, List.length_replicate, List.length_map, List.length_range, List.length_take, List.length_drop, nums_length, bools_length, vecs_length]; first | done | omega)) [A10, first9, lx, hl, f1, f2, rg, t1, hb, sl, hs, ds, ss, ml, hm, dm, sm]
      · simp (disch := first | assumption | omega | (simp only [List.length_cons, List.length_nil, List.length_set, List.length_append, List.length_replicate, List.length_map, List.length_range, List.length_take, List.length_drop, nums_length, bools_length, vecs_length]; first | done | omega)) [A10, first9, lx, hl, f1, f2, rg, t1, hb, sl, hs, ds, ss, ml, hm, dm, sm]
      · simp (disch := first | assumption | omega | (simp only [List.length_cons, List.length_nil, List.length_set, List.length_append, List.length_replicate, List.length_map, List.length_range, List.length_take, List.length_drop, nums_length, bools_length, vecs_length]; first | done | omega)) [A10, first9, lx, hl, f1, f2, rg, t1, hb, sl, hs, ds, ss, g1, g2, hm]
    · rcases cM with ⟨M, ml, rfl | rfl, hm, dm, sm⟩ | ⟨g1, g2, hm⟩
      · simp (disch := first | assumption | omega | (simp only [List.length_cons, List.length_nil, List.length_set, List.length_append, List.length_replicate, List.length_map, List.length_range, List.length_take, List.length_drop, nums_length, bools_length, vecs_length]; first | done | omega)) [A10, first9, lx, hl, f1, f2, rg, t1, hb, sl, hs, ds, ss, ml, hm, dm, sm]
      · simp (disch := first | assumption | omega | (simp only [List.length_cons, List.length_nil, List.length_set, List.length_append, List.length_replicate, List.length_map, List.length_range, List.length_take, List.length_drop, nums_length, bools_length, vecs_length]; first | done | omega)) [A10, first9, lx, hl, f1, f2, rg, t1, hb, sl, hs, ds, ss, ml, hm, dm, sm]
      · simp (disch := first | assumption | omega | (simp only [List.length_cons, List.length_nil, List.length_set, List.length_append, List.length_replicate, List.length_map, List.length_range, List.length_take, List.length_drop, nums_length, bools_length, vecs_length]; first | done | omega)) [A10, first9, lx, hl, f1, f2, rg, t1, hb, sl, hs, ds, ss, g1, g2, hm]
    · rcases cM with ⟨M, ml, rfl | rfl, hm, dm, sm⟩ | ⟨g1, g2, hm⟩
      · simp (disch := first | assumption | omega | (simp only [List.length_cons, List.length_nil, List.length_set, List.length_append, List.length_replicate, List.length_map, List.length_range, List.length_take, List.length_drop, nums_length, bools_length, vecs_length]; first | done | omega)) [A10, first9, lx, hl, f1, f2, rg, t1, hb, e1, e2, hs, ml, hm, dm, sm]
      · simp (disch := first | assumption | omega | (simp only [List.length_cons, List.length_nil, List.length_set, List.length_append, List.length_replicate, List.length_map, List.length_range, List.length_take, List.length_drop, nums_length, bools_length, vecs_length]; first | done | omega)) [A10, first9, lx, hl, f1, f2, rg, t1, hb, e1, e2, hs, ml, hm, dm, sm]
      · simp (disch := first | assumption | omega | (simp only [List.length_cons, List.length_nil, List.length_set, List.length_append, List.length_replicate, List.length_map, List.length_range, List.length_take, List.length_drop, nums_length, bools_length, vecs_length]; first | done | omega)) [A10, first9, lx, hl, f1, f2, rg, t1, hb, e1, e2, hs, g1, g2, hm]
  · rcases cS with ⟨S, sl, rfl | rfl, hs, ds, ss⟩ | ⟨e1, e2, hs⟩
    · rcases cM with ⟨M, ml, rfl | rfl, hm, dm, sm⟩ | ⟨g1, g2, hm⟩
      · simp (disch := first | assumption | omega | (simp only [List.length_cons, List.length_nil, List.length_set, List.length_append, List.length_replicate, List.length_map, List.length_range, List.length_take, List.length_drop, nums_length, bools_length, vecs_length]; first | done | omega)) [A10, first9, lx, hl, f1, f2, rg, t1, t2, hb, sl, hs, ds, ss, ml, hm, dm, sm]
      · simp (disch := first | assumption | omega | (simp only [List.length_cons, List.length_nil, List.length_set, List.length_append, List.length_replicate, List.length_map, List.length_range, List.length_take, List.length_drop, nums_length, bools_length, vecs_length]; first | done | omega)) [A10, first9, lx, hl, f1, f2, rg, t1, t2, hb, sl, hs, ds, ss, ml, hm, dm, sm]
      · simp (disch := first | assumption | omega | (simp only [List.length_cons, List.length_nil, List.length_set, List.length_append, List.length_replicate, List.length_map, List.length_range, List.length_take, List.length_drop, nums_length, bools_length, vecs_length]; first | done | omega)) [A10, first9, lx, hl, f1, f2, rg, t1, t2, hb, sl, hs, ds, ss, g1, g2, hm]
    · rcases cM with ⟨M, ml, rfl | rfl, hm, dm, sm⟩ | ⟨g1, g2, hm⟩
      · simp (disch := first | assumption | omega | (simp only [List.length_cons, List.length_nil, List.length_set, List.length_append, List.length_replicate, List.length_map, List.length_range, List.length_take, List.length_drop, nums_length, bools_length, vecs_length]; first | done | omega)) [A10, first9, lx, hl, f1, f2, rg, t1, t2, hb, sl, hs, ds, ss, ml, hm, dm, sm]
      · simp (disch := first | assumption | omega | (simp only [List.length_cons, List.length_nil, List.length_set, List.length_append, List.length_replicate, List.length_map, List.length_range, List.length_take, List.length_drop, nums_length, bools_length, vecs_length]; first | done | omega)) [A10, first9, lx, hl, f1, f2, rg, t1, t2, hb, sl, hs, ds, ss, ml, hm, dm, sm]
      · simp (disch := first | assumption | omega | (simp only [List.length_cons, List.length_nil, List.length_set, List.length_append, List.length_replicate, List.length_map, List.length_range, List.length_take, List.length_drop, nums_length, bools_length, vecs_length]; first | done | omega)) [A10, first9, lx, hl, f1, f2, rg, t1, t2, hb, sl, hs, ds, ss, g1, g2, hm]
    · rcases cM with ⟨M, ml, rfl | rfl, hm, dm, sm⟩ | ⟨g1, g2, hm⟩
      · simp (disch := first | assumption | omega | (simp only [List.length_cons, List.length_nil, List.length_set, List.length_append, List.length_replicate, List.length_map, List.length_range, List.length_take, List.length_drop, nums_length, bools_length, vecs_length]; first | done | omega)) [A10, first9, lx, hl, f1, f2, rg, t1, t2, hb, e1, e2, hs, ml, hm, dm, sm]
      · simp (disch := first | assumption | omega | (simp only [List.length_cons, List.length_nil, List.length_set, List.length_append, List.length_replicate, List.length_map, List.length_range, List.length_take, List.length_drop, nums_length, bools_length, vecs_length]; first | done | omega)) [A10, first9, lx, hl, f1, f2, rg, t1, t2, hb, e1, e2, hs, ml, hm, dm, sm]
      · simp (disch := first | assumption | omega | (simp only [List.length_cons, List.length_nil, List.length_set, List.length_append, List.length_replicate, List.length_map, List.length_range, List.length_take, List.length_drop, nums_length, bools_length, vecs_length]; first | done | omega)) [A10, first9, lx, hl, f1, f2, rg, t1, t2, hb, e1, e2, hs, g1, g2, hm]
end Zab.YtngoidkconngmaaDoorG
