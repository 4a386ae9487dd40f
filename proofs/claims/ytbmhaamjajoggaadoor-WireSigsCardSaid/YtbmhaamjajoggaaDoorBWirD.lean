/- Hints as bytes: the program's function. -/
import Derived.Test.YtbmhaamjajoggaaDoorZabY
import Derived.Test.YtbmhaamjajoggaaDoorBWirA
import Derived.Test.YtbmhaamjajoggaaDoorBWireS
import Derived.Test.YtbmhaamjajoggaaDoorBErr
namespace Zab.YtbmhaamjajoggaaDoorB
open Go
open Go.IntWalk (i64_in)
set_option maxRecDepth 100000
set_option linter.unusedSimpArgs false
set_option linter.unusedVariables false
attribute [-simp] getElem?_pos

set_option maxHeartbeats 8000000 in
theorem pHints {K om : Nat} {b c d e f g st : Int} (hK : K ≤ 20) (hom : om ≤ 100) {x : AV} {xs : List AV} {Bs : List (List Bool)} (hv : IsW IsB x xs Bs) (hl : ∀ B ∈ Bs, B.length = 256) (hBK : Bs.length = K) :
    FF tab 44 [.ag (seven K b c d e f g om st), x] = some ⟨if (plcA Bs).length ≤ om then .tp [.os (nums .u8 (outH om K (plcA Bs) (endA Bs K))) (om + K) 1, .nl] else .tp [.z, .er 3], []⟩ := by
  refine call_by (A := A44) rfl rfl ?_
  have fx := hv.flat
  have lx := hv.lenV
  rw [hBK] at lx
  have w0 : IntKind.i64.wrap ((om : Int) + (K : Int)) = ((om + K : Nat) : Int) := by rw [show (om : Int) + (K : Int) = ((om + K : Nat) : Int) by omega]; exact i64_in _ (by omega)
  obtain ⟨M, hM⟩ : ∃ M, M = om + K := ⟨_, rfl⟩
  rw [← hM] at w0 ⊢
  have k1 : (0 : Int) ≤ (M : Int) := by omega
  have k2 : (M : Int) * 1 ≤ 140737488355328 := by omega
  have k3 : (M : Int).toNat = M := Int.toNat_natCast _
  have rl : ∀ P E : List Int, P.length ≤ om → E.length ≤ K → (outH om K P E).length = M := fun P E h1 h2 => by rw [outH_len h1 h2, hM]
  have o0 : List.replicate M 0 = outH om K [] [] := by
    unfold outH Zab.zs
    simp only [List.nil_append, List.length_nil, Nat.sub_zero, List.replicate_append_replicate, hM]
  simp (disch := first | assumption | omega | (simp only [lenS]; first | done | omega)) [A44, seven, lx, w0, k1, k2, k3, nums_zrep, o0]
  refine w_headsP K (fun i => ⟨[(20, .i .i64 i), (19, .i .i64 K), (18, x), (7, .i .i64 (plcA (Bs.take i)).length), (6, .rs 17 0 M 1), (2, .rf 2 0)], [(17, nums .u8 (outH om K (plcA (Bs.take i)) (endA Bs i))), (2, seven K b c d e f g om st)]⟩) (fun i => (plcA (Bs.take i)).length ≤ om) (by simp (disch := first | assumption | omega | (simp only [lenS]; first | done | omega)) [plcA, endA, seven]) (by simp [plcA]) ?_ ?_
  · intro i hi hp
    have hik : i < Bs.length := by omega
    have w1 : IntKind.i64.wrap ((i : Int) + 1) = (i : Int) + 1 := i64_in _ (by omega)
    have hix := hv.ix hik
    obtain ⟨u, hu, hU⟩ := hv.get hik
    have fu := hU.flat
    have lu := lenV_isB hU
    have hB := hl _ (List.getElem_mem hik)
    have hB2 : ((Bs[i].length : Nat) : Int) = 256 := by omega
    rw [hB2] at lu
    have hlt : (i : Int) < (K : Int) := by omega
    have hn := plcA_next hik
    have hmono := plcA_mono Bs (i + 1)
    have hel := endA_len Bs i
    have hen := endA_next Bs i
    simp (disch := first | assumption | omega | (simp only [lenS]; first | done | omega)) [seven, hlt, hix, hu, lu]
    refine w_headsP 256 (fun k => ⟨[(27, .i .i64 k), (26, .i .i64 256), (25, u), (20, .i .i64 i), (19, .i .i64 K), (18, x), (8, .i .i64 i), (7, .i .i64 (plcA (Bs.take i) ++ plcTo Bs[i] k).length), (6, .rs 17 0 M 1), (2, .rf 2 0)], [(17, nums .u8 (outH om K (plcA (Bs.take i) ++ plcTo Bs[i] k) (endA Bs i))), (2, seven K b c d e f g om st)]⟩) (fun k => (plcA (Bs.take i) ++ plcTo Bs[i] k).length ≤ om) (by simp (disch := first | assumption | omega | (simp only [lenS]; first | done | omega)) [plcTo, seven]) (by simpa [plcTo] using hp) ?_ ?_
    · intro k hk hp2
      have wk : IntKind.i64.wrap ((k : Int) + 1) = (k : Int) + 1 := i64_in _ (by omega)
      have wu : IntKind.u8.wrap (k : Int) = (k : Int) := u8_nat hk
      have tn : (k : Int).toNat = k := Int.toNat_natCast _
      have ib := ixSV_isB hU (k' := .i64) (j := (k : Int)) (by omega) (by omega)
      rw [tn] at ib
      have gb := bools_get (L := Bs[i]) (j := k) (by omega)
      have hlk : (k : Int) < 256 := by omega
      cases hb : nb Bs[i] k with
      | false =>
        rw [hb] at gb
        rw [plcTo_f hb]
        generalize plcA (Bs.take i) ++ plcTo Bs[i] k = T at *
        generalize outH om K T (endA Bs i) = R at *
        simp (disch := first | assumption | omega | (simp only [lenS]; first | done | omega)) [seven, hlk, ib, gb, wk, hp2]
      | true =>
        rw [hb] at gb
        rw [plcTo_t hb, ← List.append_assoc]
        have hm2 : (plcTo Bs[i] (k + 1)).length ≤ (plcTo Bs[i] 256).length := plcTo_mono _ (by omega)
        rw [plcTo_t hb, List.length_append] at hm2
        simp only [List.length_singleton] at hm2
        have hTl : (plcA (Bs.take i) ++ plcTo Bs[i] k).length = (plcA (Bs.take i)).length + (plcTo Bs[i] k).length := List.length_append
        have hnl : (plcA (Bs.take (i + 1))).length = (plcA (Bs.take i)).length + (plcTo Bs[i] 256).length := by rw [hn, List.length_append]
        generalize plcA (Bs.take i) ++ plcTo Bs[i] k = T at *
        by_cases h1 : (T.length : Int) = (om : Int)
        · have hne : ¬ (plcA Bs).length ≤ om := by omega
          rw [if_neg hne]
          generalize outH om K T (endA Bs i) = R at *
          simp (disch := first | assumption | omega | (simp only [lenS]; first | done | omega)) [seven, hlk, ib, gb, h1]
        · have hp3 : T.length < om := by omega
          have st := outH_place (K := K) (E := endA Bs i) hp3 (k : Int)
          have r0 := rl T (endA Bs i) hp2 (by omega)
          have r1 := rl (T ++ [(k : Int)]) (endA Bs i) (by simp; omega) (by omega)
          have q0 : (0 : Int) ≤ (T.length : Int) := by omega
          have q1 : (T.length : Int) < (M : Int) := by omega
          have q2 : (T.length : Int).toNat = T.length := Int.toNat_natCast _
          have q3 : T.length + 1 ≤ om := by omega
          have wt : IntKind.i64.wrap ((T.length : Int) + 1) = (T.length : Int) + 1 := i64_in _ (by omega)
          have e1 : (T ++ [(k : Int)]).length = T.length + 1 := by simp
          generalize outH om K (T ++ [(k : Int)]) (endA Bs i) = R1 at *
          generalize outH om K T (endA Bs i) = R0 at *
          simp (disch := first | assumption | omega | (simp only [lenS]; first | done | omega)) [seven, hlk, ib, gb, h1, wu, wk, wt, st, r0, r1, q0, q1, q2, q3, e1]
    · intro hp2
      rw [← hn] at hp2 ⊢
      generalize hT : plcA (Bs.take (i + 1)) = T at *
      have st := outH_end (om := om) (K := K) (P := T) (E := endA Bs i) hp2 (by omega) (T.length : Int)
      rw [hel, ← hen] at st
      have r0 := rl T (endA Bs i) hp2 (by omega)
      have wo : IntKind.i64.wrap ((om : Int) + (i : Int)) = ((om + i : Nat) : Int) := by rw [show (om : Int) + (i : Int) = ((om + i : Nat) : Int) by omega]; exact i64_in _ (by omega)
      have wu : IntKind.u8.wrap (T.length : Int) = (T.length : Int) := u8_nat (by omega)
      have q0 : (0 : Int) ≤ ((om + i : Nat) : Int) := by omega
      have q1 : ((om + i : Nat) : Int) < (M : Int) := by omega
      have q2 : ((om + i : Nat) : Int).toNat = om + i := Int.toNat_natCast _
      have q3 : om + i < M := by omega
      generalize ((om + i : Nat) : Int) = Z at *
      generalize om + i = z at *
      generalize outH om K T (endA Bs (i + 1)) = R1 at *
      generalize outH om K T (endA Bs i) = R0 at *
      simp (disch := first | assumption | omega | (simp only [lenS]; first | done | omega)) [seven, wo, wu, w1, st, r0, q0, q1, q2, q3, hp2]
  · intro hp
    have e : Bs.take K = Bs := by rw [← hBK]; exact List.take_length
    rw [e] at hp ⊢
    rw [if_pos hp]
    have r0 := rl (plcA Bs) (endA Bs K) hp (by rw [endA_len]; omega)
    generalize outH om K (plcA Bs) (endA Bs K) = R at *
    simp (disch := first | assumption | omega | (simp only [lenS]; first | done | omega)) [r0]
end Zab.YtbmhaamjajoggaaDoorB
