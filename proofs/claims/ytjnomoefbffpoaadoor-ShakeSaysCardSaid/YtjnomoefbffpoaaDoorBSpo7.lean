/- Sponges that gave already, in both words; what is amiss. -/
import Derived.Test.YtjnomoefbffpoaaDoorZabY
import Derived.Test.YtjnomoefbffpoaaDoorBSpo5
namespace Zab.YtjnomoefbffpoaaDoorB
open Go
open Go.IntWalk (i64_in)
set_option maxRecDepth 100000
set_option linter.unusedSimpArgs false
set_option linter.unusedVariables false
attribute [-simp] getElem?_pos
attribute [local simp] sees_nil sees_rf sees_i sees_sl sees_z sees_rs sees_fl

set_option maxHeartbeats 8000000 in
theorem dSqueezeT {A : List Ln} (hA : A.length = 25) {R p : Nat} (hR0 : 0 < R) (hR : R ≤ 192) (hp : p ≤ R) (X : Int) {n : Int} (n0 : 0 ≤ n) (n1 : n ≤ 1048576) :
    FF tab 15 [.op (spD A R X p true), .i .i64 n] = some ⟨.tp [.os (nums .u8 (outL R (A, p) n.toNat)) n.toNat 1, .i .i64 0], [spD (nextN R (A, p) n.toNat).1 R X (nextN R (A, p) n.toNat).2 true]⟩ := by
  refine call_by (A := A15) rfl rfl ?_
  obtain ⟨S, hS⟩ : ∃ S : List Ln × Nat, S = (A, p) := ⟨_, rfl⟩
  rw [← hS]
  have hS0 : S.1 = A ∧ S.2 = p := by rw [hS]; exact ⟨rfl, rfl⟩
  have hSl : S.1.length = 25 := by rw [hS0.1]; exact hA
  have hSp : S.2 ≤ R := by rw [hS0.2]; exact hp
  have h28 := spD_28 (r := R) (x := X) (p := (p : Int)) (s := true) hA
  have ll := spD_len (r := R) (x := X) (p := (p : Int)) (s := true) hA
  have hlt : ¬ n < 0 := by omega
  have hgt : ¬ 1048576 < n := by omega
  have hnn : ((n.toNat : Nat) : Int) = n := by omega
  have zz : zrep [AV.i .u8 0] 0 = [] := rfl
  clear hS
  simp (disch := first | assumption | omega | (simp only [List.length_cons, List.length_nil, List.length_set, List.length_append, List.length_replicate, List.length_map, List.length_range, List.length_take, List.length_drop, nums_length, bools_length, vecs_length]; first | done | omega)) [A15, hlt, hgt, h28, hnn, zz]
  refine w_heads n.toNat (fun k => ⟨[(7, .i .i64 k), (6, .rs 51 0 k 1), (1, .i .i64 n), (0, .rf 0 0)], [(51, nums .u8 (outL R S k)), (0, spD (nextN R S k).1 R X (nextN R S k).2 true)]⟩) (by simp (disch := first | assumption | omega | (simp only [List.length_cons, List.length_nil, List.length_set, List.length_append, List.length_replicate, List.length_map, List.length_range, List.length_take, List.length_drop, nums_length, bools_length, vecs_length]; first | done | omega)) [hnn, nextN, hS0, outL, nums_nil]) ?_ ?_
  · intro k hk
    have wk : IntKind.i64.wrap ((k : Int) + 1) = (k : Int) + 1 := i64_in _ (by omega)
    have hkn : (k : Int).toNat = k := Int.toNat_natCast _
    have hkL : (k : Int) < n := by omega
    obtain ⟨a1, a2⟩ := nextN_ok hR0 hSl hSp k
    obtain ⟨b1, b2⟩ := outS_ok hR0 a1 a2
    have hsu := outL_succ R S k
    have hol := outL_len R S k
    have hnx : nextN R S (k + 1) = ((outS R (nextN R S k)).1, (outS R (nextN R S k)).2 + 1) := rfl
    rw [hnx, hsu]
    simp only
    clear hnx hsu hS0 ll h28
    generalize outL R S k = O0 at *
    generalize nextN R S k = Z at *
    obtain ⟨B, q⟩ := Z
    simp only at a1 a2 b1 b2 ⊢
    have hqp : q = R → outS R (B, q) = (perm B, 0) := fun h => if_pos h
    have hqn : q ≠ R → outS R (B, q) = (B, q) := fun h => if_neg h
    have hP := pfPermute B a1
    have hpl := perm_len a1
    have hl25 := lanes_25 hpl
    have g0 := spD_0 (A := B) (r := R) (x := X) (p := (q : Int)) (s := true)
    have g27 := spD_27 (r := R) (x := X) (p := (q : Int)) (s := true) a1
    have l0 := spD_len (r := R) (x := X) (p := (q : Int)) (s := true) a1
    by_cases hq : q = R
    · have e := hqp hq
      rw [e] at b1 b2 ⊢
      simp only at b1 b2 ⊢
      have hqd : decide ((q : Int) = (R : Int)) = true := decide_eq_true (by omega)
      have pt := spD_part (r := R) (x := X) (p := (q : Int)) (s := true) a1
      have ov := spD_over (r := R) (x := X) (p := (q : Int)) (s := true) a1 hpl
      have l1 := spD_len (r := R) (x := X) (p := (q : Int)) (s := true) hpl
      have l2 := spD_len (r := R) (x := X) (p := (0 : Int)) (s := true) hpl
      have s27 := spD_set27 (r := R) (x := X) (p := (q : Int)) (s := true) hpl 0
      have s27' := spD_set27 (r := R) (x := X) (p := (0 : Int)) (s := true) hpl 1
      have g27' := spD_27 (r := R) (x := X) (p := (0 : Int)) (s := true) hpl
      have gl := spD_lane (r := R) (x := X) (p := (0 : Int)) (s := true) hpl (j := 0) (by omega)
      have sh := shr_u64 (nl (perm B) 0) (n := 0) (by omega)
      have hO : outB (perm B, 0) = IntKind.u8.wrap (iv (nl (perm B) 0 >>> 0)) := by simp only [outB, Nat.zero_div, Nat.zero_mod, Nat.mul_zero]
      rw [hO]
      have z1 : IntKind.i64.wrap 0 = 0 := rfl
      have z2 : IntKind.i64.wrap 1 = 1 := rfl
      have z3 : (0 : Int).tdiv 8 = 0 := rfl
      have z4 : (0 : Int).tmod 8 = 0 := rfl
      have z5 : IntKind.u64.wrap 0 = 0 := rfl
      have e01 : ((0 + 1 : Nat) : Int) = 1 := rfl
      rw [e01]
      rw [Int.natCast_zero] at sh
      rw [show 2 + 0 = 2 from rfl] at gl
      clear hqp hqn e hO
      generalize nl (perm B) 0 >>> 0 = W at *
      generalize perm B = PB at *
      generalize hT : (k : Int) = T at *
      simp (disch := first | assumption | omega | (simp only [List.length_cons, List.length_nil, List.length_set, List.length_append, List.length_replicate, List.length_map, List.length_range, List.length_take, List.length_drop, nums_length, bools_length, vecs_length]; first | done | omega)) [hkL, hkn, hol, g27, g0, hqd, pt, hP, ov, s27, g27', gl, sh, z1, z2, z3, z4, z5, nums_snoc, s27', wk, hT, -shiftV_shl, -shiftV_shr]
    · have e := hqn hq
      rw [e] at b1 b2 ⊢
      simp only at b1 b2 ⊢
      have hqd : ¬ ((q : Int) = (R : Int)) := by omega
      have q8 : q / 8 < 25 := by omega
      have gl := spD_lane (r := R) (x := X) (p := (q : Int)) (s := true) a1 q8
      have sh := shr_u64 (nl B (q / 8)) (n := 8 * (q % 8)) (by omega)
      have hO : outB (B, q) = IntKind.u8.wrap (iv (nl B (q / 8) >>> (8 * (q % 8)))) := rfl
      rw [hO]
      have z1 : (q : Int).tdiv 8 = ((q / 8 : Nat) : Int) := rfl
      have z2 : (q : Int).tmod 8 = ((q % 8 : Nat) : Int) := rfl
      have z3 : IntKind.i64.wrap ((q / 8 : Nat) : Int) = ((q / 8 : Nat) : Int) := i64_in _ (by omega)
      have z4 : IntKind.i64.wrap (((q % 8 : Nat) : Int) * 8) = ((8 * (q % 8) : Nat) : Int) := by rw [i64_in _ (by omega)]; omega
      have z5 : ((q / 8 : Nat) : Int).toNat = q / 8 := Int.toNat_natCast _
      have z6 : 0 ≤ ((q / 8 : Nat) : Int) ∧ ((q / 8 : Nat) : Int) < 25 := by omega
      have z7 := u64_i (n := 8 * (q % 8)) (by omega)
      have wq : IntKind.i64.wrap ((q : Int) + 1) = ((q + 1 : Nat) : Int) := i64_in _ (by omega)
      have s27 := spD_set27 (r := R) (x := X) (p := (q : Int)) (s := true) a1 ((q + 1 : Nat) : Int)
      clear hqp hqn e hO hP hpl hl25 hq
      generalize nl B (q / 8) >>> (8 * (q % 8)) = W at *
      generalize ((8 * (q % 8) : Nat) : Int) = E at *
      generalize ((q % 8 : Nat) : Int) = M at *
      generalize ((q / 8 : Nat) : Int) = D at *
      generalize q / 8 = J at *
      generalize ((q + 1 : Nat) : Int) = Q1 at *
      generalize hT : (k : Int) = T at *
      simp (disch := first | assumption | omega | (simp only [List.length_cons, List.length_nil, List.length_set, List.length_append, List.length_replicate, List.length_map, List.length_range, List.length_take, List.length_drop, nums_length, bools_length, vecs_length]; first | done | omega)) [hkL, hkn, hol, g27, g0, hqd, gl, sh, z1, z2, z3, z4, z5, z7, nums_snoc, s27, wq, wk, hT, -shiftV_shl, -shiftV_shr]
  · have hol := outL_len R S n.toNat
    have hnl := nums_length .u8 (outL R S n.toNat)
    have lo := fun C => lent_one3 C (spD A R X p true) (nums .u8 (outL R S n.toNat)) n
    generalize nextN R S n.toNat = S1 at *
    generalize outL R S n.toNat = F at *
    simp (disch := first | assumption | omega | (simp only [List.length_cons, List.length_nil, List.length_set, List.length_append, List.length_replicate, List.length_map, List.length_range, List.length_take, List.length_drop, nums_length, bools_length, vecs_length]; first | done | omega)) [hol, hnl, hnn, lo]

theorem dAbsorbT {A : List Ln} (hA : A.length = 25) (R p : Nat) (X : Int) {x : AV} (fx : x.flat = true) :
    FF tab 13 [.op (spD A R X p true), x] = some ⟨.i .i64 104, [spD A R X p true]⟩ := by
  refine call_by (A := A13) rfl rfl ?_
  have h28 := spD_28 (r := R) (x := X) (p := (p : Int)) (s := true) hA
  have ll := spD_len (r := R) (x := X) (p := (p : Int)) (s := true) hA
  have lo := lent_one (spD A R X p true) (spD A R X p true) fx
  simp (disch := first | assumption | omega | (simp only [List.length_cons, List.length_nil, List.length_set, List.length_append, List.length_replicate, List.length_map, List.length_range, List.length_take, List.length_drop, nums_length, bools_length, vecs_length]; first | done | omega)) [A13, h28, lo]
theorem dBad {A : List Ln} (R : Int) (p : Nat) (X : Int) (s : Bool) {n : Int} (hn : n < 0 ∨ 1048576 < n) :
    FF tab 15 [.op (spD A R X p s), .i .i64 n] = some ⟨.tp [.z, .i .i64 101], [spD A R X p s]⟩ := by
  refine call_by (A := A15) rfl rfl ?_
  have lo : lentOf [(0, spD A R X p s)] 0 [.op (spD A R X p s), .i .i64 n] = some ([spD A R X p s], []) := rfl
  by_cases h0 : n < 0
  · simp (disch := first | assumption | omega | (simp only [List.length_cons, List.length_nil, List.length_set, List.length_append, List.length_replicate, List.length_map, List.length_range, List.length_take, List.length_drop, nums_length, bools_length, vecs_length]; first | done | omega)) [A15, h0, lo]
  · have h1 : 1048576 < n := by omega
    simp (disch := first | assumption | omega | (simp only [List.length_cons, List.length_nil, List.length_set, List.length_append, List.length_replicate, List.length_map, List.length_range, List.length_take, List.length_drop, nums_length, bools_length, vecs_length]; first | done | omega)) [A15, h0, h1, lo]
end Zab.YtjnomoefbffpoaaDoorB
