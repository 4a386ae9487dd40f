/- The law KemKeys, by what its code answers; its row, its tied card. -/
import Derived.Test.YtjnomoefbffpoaaGreatDoorRows
import Derived.Test.YtjnomoefbffpoaaGreatDoorCards
import Derived.Test.YtjnomoefbffpoaaGreatDoorTie
import Derived.Test.YtjnomoefbffpoaaGreatDoorS6
import Derived.WalkKit
import Derived.ProofKit
import Derived.OpenShut
import Derived.WideShapes
import Derived.ChangeOld
import Derived.ChangeVars
import Derived.Below
import Derived.Carry
import Derived.SizedLaws
import Derived.SevenTiedAt
namespace Go.Proofs.YtjnomoefbffpoaaGreatDoor.kemKeysZ
open Go.ChangeShapes Go.WideShapes Go.ChangeAt Go.RowKit Zab
set_option linter.unusedVariables false
set_option linter.unusedSimpArgs false
theorem own : ownKnob Tryz.prog.godebug = none := by kernel_rfl
set_option maxRecDepth 100000 in
set_option maxHeartbeats 2000000 in
theorem lifted (os : Os) (started : os.Started) (H : Type) (enc : TypeId × Value → H) :
    ReturnsInHanded {} Tryz.checked os 3 .any (fun w args => (Rows.kemKeysSpec.pre enc Tryz.prog Tryz.f3 [] false w args ∧ laidMetH Tryz.prog Rows.kemKeysRow.laid w) ∧ sizedMet enc Tryz.prog Tryz.f3 (OpenSpec.ofChange Rows.kemKeysSpec) false w args)
      (Rows.kemKeysSpec.post enc Tryz.prog Tryz.f3 false true false false) := by
  refine returnsInHanded_of_change_and (C := Tryz.checked) (X := fun w _ => laidMetH Tryz.prog Rows.kemKeysRow.laid w) (fun _ _ _ hh h => h.of_heap hh) own started (by kernel_rfl) Tryz.func3
    (ChangeSpec.witness_at (enc := enc) (C := Tryz.checked) (os := os) (X := fun w _ => laidMetH Tryz.prog Rows.kemKeysRow.laid w) false (Zab.YtjnomoefbffpoaaGreatDoorB.laidWorld os) #[.int .i64 0, .slice none 0 0, .slice none 0 0] 8 rfl (by kernel_rfl) (by kernel_rfl) (by kernel_rfl) (by kernel_rfl) (by kernel_rfl) (Zab.YtjnomoefbffpoaaGreatDoorB.laidWorld_met os _)) ?_
  intro W base args ds gs before hval0 hW _ _ hL _
  have hval : ∀ (j : Nat) t v, Tryz.f3.params[j]? = some t → args[j]? = some v → Value.okWide Tryz.prog W .any base t v := hval0
  have hW' := hW
  obtain ⟨p, q, hA0, hV0, rfl, hfz, hnd⟩ := hW
  have hA : DataW.TrodAll enc Tryz.prog W 0 (fun _ => true) true Tryz.f3.params.toList args.toList ds p := hA0
  have hV : DataW.TrodVars enc Tryz.prog W (fun _ => true) [] gs q := hV0
  rw [Tryz.params3] at hA hval
  obtain ⟨v0, vs0, d0, ds0, p0, q0, hargs, rfl, rfl, h0, r0⟩ := trodAll_cons hA
  obtain ⟨v1, vs1, d1, ds1, p1, q1, rfl, rfl, rfl, h1, r1⟩ := trodAll_cons r0
  obtain ⟨v2, vs2, d2, ds2, p2, q2, rfl, rfl, rfl, h2, r2⟩ := trodAll_cons r1
  obtain ⟨rfl, rfl, rfl⟩ := trodAll_nil r2
  obtain rfl : args = #[v0, v1, v2] := by cases args; simp_all
  obtain ⟨rfl, rfl⟩ : gs = [] ∧ q = [] := by
    cases gs with
    | nil => exact ⟨rfl, hV⟩
    | cons g r => exact absurd hV (by intro h; cases h)
  obtain ⟨sent, hlaw⟩ := Zab.YtjnomoefbffpoaaGreatDoorB.lawEnv hL
  obtain ⟨a0, rfl, rfl, rfl, w0⟩ := open_int Tryz.underlying3 (hval 0 3 v0 rfl rfl) h0
  have hk1 := h1
  have hlt1 : ∀ x ∈ p1, x.block < W.heap.size := fun x hx => hW'.lt x (by simp [hx])
  obtain ⟨sa1, sl1, sc1, rfl⟩ := okWide_slice Tryz.underlying22 (hval 1 22 v1 rfl rfl)
  obtain ⟨l1, s1, rep1⟩ := Zab.arg_cell (E := (Zab.YtjnomoefbffpoaaGreatDoorB.envS sent)) (fun N => (o_slice Tryz.underlying22 (show 0 < Tryz.prog.cellsOf 5 by decide +kernel) (fun _ _ => (o_int Tryz.underlying5)))) rfl h1
  obtain ⟨x1, L1, rfl, is1⟩ := Zab.isNums_of s1
  have hk2 := h2
  have hlt2 : ∀ x ∈ p2, x.block < W.heap.size := fun x hx => hW'.lt x (by simp [hx])
  obtain ⟨sa2, sl2, sc2, rfl⟩ := okWide_slice Tryz.underlying22 (hval 2 22 v2 rfl rfl)
  obtain ⟨l2, s2, rep2⟩ := Zab.arg_cell (E := (Zab.YtjnomoefbffpoaaGreatDoorB.envS sent)) (fun N => (o_slice Tryz.underlying22 (show 0 < Tryz.prog.cellsOf 5 by decide +kernel) (fun _ _ => (o_int Tryz.underlying5)))) rfl h2
  obtain ⟨x2, L2, rfl, is2⟩ := Zab.isNums_of s2
  clear hA0 hval0
  have hcall := hlaw (Zab.YtjnomoefbffpoaaGreatDoorB.KemKeys a0 (Zab.inK_of w0) x1 L1 is1 x2 L2 is2) #[.int .i64 a0, .slice sa1 sl1 sc1, .slice sa2 sl2 sc2] rfl (fun j h1 h2 => by
    match j, h1, h2 with
    | 0, _, _ => exact .flat (.i _ _)
    | 1, _, _ => exact rep1 _ _ _ _ rfl
    | 2, _, _ => exact rep2 _ _ _ _ rfl)
  refine hcall.mono fun e W' ⟨he, bel⟩ => ?_
  subst he
  exact ⟨_, rfl, _, _, _, [], _, [], hW', trodAll_mk1 (shut_bool Tryz.underlying4 _), (trodAll_cons_mk (shut_int Tryz.underlying3 w0) (trodAll_cons_mk (Below.trod Zab.YtjnomoefbffpoaaGreatDoorB.laidOut (by kernel_rfl) (of_decide_eq_true (by kernel_rfl)) hk1 bel hlt1) (trodAll_cons_mk (Below.trod Zab.YtjnomoefbffpoaaGreatDoorB.laidOut (by kernel_rfl) (of_decide_eq_true (by kernel_rfl)) hk2 bel hlt2) trodAll_mk0))), rfl, bel.frame _, fun h => by cases h⟩
theorem over : Rows.kemKeysRow.holds Tryz.pinned (OpenSpec.ofChange Rows.kemKeysSpec) :=
  OpenClaim.holds_of_wide 3 Tryz.f3 rfl rfl rfl rfl rfl rfl rfl ⟨rfl, rfl, rfl, rfl, rfl⟩ rfl rfl rfl rfl rfl (by kernel_rfl) Tryz.func3 (by kernel_rfl)
    (of_decide_eq_true (by kernel_rfl)) (by unfold Func.isWrapper; first | (rw [if_pos (by decide +kernel)]; kernel_rfl) | (rw [if_neg (by decide +kernel)]; exact ⟨rfl, rfl⟩))
    (fun os started H enc _ => lifted os started H enc)
set_option maxRecDepth 100000 in
theorem card : Rows.KemKeysCardSaid :=
  Claim7.holds_tied_plain_at .later [] [.sentinel, .sentinel, .sentinel, .sentinel, .sentinel, .sentinel, .sentinel, .sentinel, .sentinel, .sentinel, .sentinel, .sentinel, .sentinel, .sentinel] true (true, "454af624f34f1fd7ca12ac4a7f2b50a06b3f09ed775e46d63cbfefc236f52e13") true
    over (fun _ h => by cases h) (by kernel_rfl) (fun _ h => by cases h) kemKeys_row_tie rfl ⟨rfl, rfl⟩ (by kernel_rfl) rfl
    (fun f fn hf hfn => by
      obtain rfl : f = 3 := Option.some.inj ((show Tryz.prog.funcNamed "alembic/alembiclaw10.KemKeys" = some 3 by kernel_rfl).symm.trans hf) |>.symm
      obtain rfl : fn = Tryz.f3 := (Option.some.inj (Tryz.func3.symm.trans hfn)).symm
      exact ⟨by kernel_rfl, fun j t ht => by
        rw [Tryz.params3] at ht
        have hm : t ∈ [3, 22, 22] := by
          have := Array.mem_of_getElem? ht
          simpa using this
        simp only [List.mem_cons, List.not_mem_nil, or_false, or_self] at hm
        rcases hm with rfl | rfl | rfl
        all_goals first | exact (show Tryz.prog.wantsStandIn 3 = false by kernel_rfl) | exact (show Tryz.prog.wantsStandIn 22 = false by kernel_rfl)⟩)
    (by kernel_rfl)
end Go.Proofs.YtjnomoefbffpoaaGreatDoor.kemKeysZ
namespace Go.Proofs.YtjnomoefbffpoaaGreatDoor
/-- The tied card. -/
theorem kemKeys_card : Rows.KemKeysCardSaid := kemKeysZ.card
#print axioms kemKeys_card
end Go.Proofs.YtjnomoefbffpoaaGreatDoor
