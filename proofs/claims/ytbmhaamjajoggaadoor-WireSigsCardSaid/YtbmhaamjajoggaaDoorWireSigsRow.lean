/- The law WireSigs, by what its code answers; its row, its tied card. -/
import Derived.Test.YtbmhaamjajoggaaDoorRows
import Derived.Test.YtbmhaamjajoggaaDoorCards
import Derived.Test.YtbmhaamjajoggaaDoorTie
import Derived.Test.YtbmhaamjajoggaaDoorBCall
import Derived.Test.YtbmhaamjajoggaaDoorBWirM
import Derived.WalkKit
import Derived.ProofKit
import Derived.OpenShut
import Derived.WideShapes
import Derived.ChangeOld
import Derived.ChangeVars
import Derived.Below
import Derived.Carry
import Derived.SizedLaws
import Derived.SevenTiedAt
namespace Go.Proofs.YtbmhaamjajoggaaDoor.wireSigsZ
open Go.ChangeShapes Go.WideShapes Go.ChangeAt Go.RowKit Zab
set_option linter.unusedVariables false
set_option linter.unusedSimpArgs false

theorem own : ownKnob Tryd.prog.godebug = none := by kernel_rfl
set_option maxRecDepth 100000 in
set_option maxHeartbeats 2000000 in
theorem lifted (os : Os) (started : os.Started) (H : Type) (enc : TypeId × Value → H) :
    ReturnsInHanded {} Tryd.checked os 4 .any (fun w args => (Rows.wireSigsSpec.pre enc Tryd.prog Tryd.f4 [] false w args ∧ laidMetH Tryd.prog Rows.wireSigsRow.laid w) ∧ sizedMet enc Tryd.prog Tryd.f4 (OpenSpec.ofChange Rows.wireSigsSpec) false w args)
      (Rows.wireSigsSpec.post enc Tryd.prog Tryd.f4 false true false false) := by
  refine returnsInHanded_of_change_and (C := Tryd.checked) (X := fun w _ => laidMetH Tryd.prog Rows.wireSigsRow.laid w) (fun _ _ _ hh h => h.of_heap hh) own started (by kernel_rfl) Tryd.func4
    (ChangeSpec.witness_at (enc := enc) (C := Tryd.checked) (os := os) (X := fun w _ => laidMetH Tryd.prog Rows.wireSigsRow.laid w) false (Zab.YtbmhaamjajoggaaDoorB.laidWorld os) #[.int .i64 0, .agg #[.slice none 0 0, .slice none 0 0, .slice none 0 0], .slice none 0 0, .slice none 0 0] 8 rfl (by kernel_rfl) (by kernel_rfl) (by kernel_rfl) (by kernel_rfl) (by kernel_rfl) (Zab.YtbmhaamjajoggaaDoorB.laidWorld_met os _)) ?_
  intro W base args ds gs before hval0 hW _ _ hL _
  have hval : ∀ (j : Nat) t v, Tryd.f4.params[j]? = some t → args[j]? = some v → Value.okWide Tryd.prog W .any base t v := hval0
  have hW' := hW
  obtain ⟨p, q, hA0, hV0, rfl, hfz, hnd⟩ := hW
  have hA : DataW.TrodAll enc Tryd.prog W 0 (fun _ => true) true Tryd.f4.params.toList args.toList ds p := hA0
  have hV : DataW.TrodVars enc Tryd.prog W (fun _ => true) [] gs q := hV0
  rw [Tryd.params4] at hA hval
  obtain ⟨v0, vs0, d0, ds0, p0, q0, hargs, rfl, rfl, h0, r0⟩ := trodAll_cons hA
  obtain ⟨v1, vs1, d1, ds1, p1, q1, rfl, rfl, rfl, h1, r1⟩ := trodAll_cons r0
  obtain ⟨v2, vs2, d2, ds2, p2, q2, rfl, rfl, rfl, h2, r2⟩ := trodAll_cons r1
  obtain ⟨v3, vs3, d3, ds3, p3, q3, rfl, rfl, rfl, h3, r3⟩ := trodAll_cons r2
  obtain ⟨rfl, rfl, rfl⟩ := trodAll_nil r3
  obtain rfl : args = #[v0, v1, v2, v3] := by cases args; simp_all
  obtain ⟨rfl, rfl⟩ : gs = [] ∧ q = [] := by
    cases gs with
    | nil => exact ⟨rfl, hV⟩
    | cons g r => exact absurd hV (by intro h; cases h)
  obtain ⟨sent, hlaw⟩ := Zab.YtbmhaamjajoggaaDoorB.lawEnv hL
  obtain ⟨a0, rfl, rfl, rfl, w0⟩ := open_int Tryd.underlying3 (hval 0 3 v0 rfl rfl) h0
  have hk1 := h1
  have hlt1 : ∀ x ∈ p1, x.block < W.heap.size := fun x hx => hW'.lt x (by simp [hx])
  obtain ⟨l1, s1, rep1⟩ := Zab.arg_cells (E := (Zab.YtbmhaamjajoggaaDoorB.envS sent)) (fun N => (o_struct (size := 3) Tryd.underlying34 (.cons rfl (fun _ _ => (o_slice Tryd.underlying29 (show 0 < Tryd.prog.cellsOf 5 by decide +kernel) (fun _ _ => (o_int Tryd.underlying5)))) (.cons rfl (fun _ _ => (o_slice Tryd.underlying30 (show 0 < Tryd.prog.cellsOf 22 by decide +kernel) (fun _ _ => (o_slice Tryd.underlying22 (show 0 < Tryd.prog.cellsOf 3 by decide +kernel) (fun _ _ => (o_int Tryd.underlying3)))))) (.cons rfl (fun _ _ => (o_slice Tryd.underlying32 (show 0 < Tryd.prog.cellsOf 35 by decide +kernel) (fun _ _ => (o_slice Tryd.underlying35 (show 0 < Tryd.prog.cellsOf 4 by decide +kernel) (fun _ _ => (o_bool Tryd.underlying4)))))) (.nil _)))) (by kernel_rfl))) rfl (hval 1 34 v1 rfl rfl) h1
  obtain ⟨_, _, sh1_0, ⟨_, _, sh1_1, ⟨_, _, sh1_2, rfl, rfl⟩, rfl⟩, rfl⟩ := s1
  obtain ⟨x1_0, L1_0, rfl, is1_0⟩ := Zab.isNums_of sh1_0
  obtain ⟨x1_1, xs1_1, L1_1, rfl, is1_1⟩ := Zab.isVecs_of sh1_1
  obtain ⟨x1_2, xs1_2, L1_2, rfl, is1_2⟩ := Zab.isHs_of sh1_2
  have hk2 := h2
  have hlt2 : ∀ x ∈ p2, x.block < W.heap.size := fun x hx => hW'.lt x (by simp [hx])
  obtain ⟨sa2, sl2, sc2, rfl⟩ := okWide_slice Tryd.underlying29 (hval 2 29 v2 rfl rfl)
  obtain ⟨l2, s2, rep2⟩ := Zab.arg_cell (E := (Zab.YtbmhaamjajoggaaDoorB.envS sent)) (fun N => (o_slice Tryd.underlying29 (show 0 < Tryd.prog.cellsOf 5 by decide +kernel) (fun _ _ => (o_int Tryd.underlying5)))) rfl h2
  obtain ⟨x2, L2, rfl, is2⟩ := Zab.isNums_of s2
  have hk3 := h3
  have hlt3 : ∀ x ∈ p3, x.block < W.heap.size := fun x hx => hW'.lt x (by simp [hx])
  obtain ⟨sa3, sl3, sc3, rfl⟩ := okWide_slice Tryd.underlying30 (hval 3 30 v3 rfl rfl)
  obtain ⟨l3, s3, rep3⟩ := Zab.arg_cell (E := (Zab.YtbmhaamjajoggaaDoorB.envS sent)) (fun N => (o_slice Tryd.underlying30 (show 0 < Tryd.prog.cellsOf 22 by decide +kernel) (fun _ _ => (o_slice Tryd.underlying22 (show 0 < Tryd.prog.cellsOf 3 by decide +kernel) (fun _ _ => (o_int Tryd.underlying3)))))) rfl h3
  obtain ⟨x3, xs3, L3, rfl, is3⟩ := Zab.isVecs_of s3
  clear hA0 hval0
  have hcall := hlaw (Zab.YtbmhaamjajoggaaDoorB.WireSigs a0 x1_0 L1_0 is1_0 x1_1 xs1_1 L1_1 is1_1 x1_2 xs1_2 L1_2 is1_2 x2 L2 is2 x3 xs3 L3 is3) #[.int .i64 a0, v1, .slice sa2 sl2 sc2, .slice sa3 sl3 sc3] rfl (fun j h1 h2 => by
    match j, h1, h2 with
    | 0, _, _ => exact .flat (.i _ _)
    | 1, _, _ => exact rep1 _ _ _
    | 2, _, _ => exact rep2 _ _ _ _ rfl
    | 3, _, _ => exact rep3 _ _ _ _ rfl)
  refine hcall.mono fun e W' ⟨he, bel⟩ => ?_
  subst he
  exact ⟨_, rfl, _, _, _, [], _, [], hW', trodAll_mk1 (shut_bool Tryd.underlying4 _), (trodAll_cons_mk (shut_int Tryd.underlying3 w0) (trodAll_cons_mk (Below.trod Zab.YtbmhaamjajoggaaDoorB.laidOut (by kernel_rfl) (of_decide_eq_true (by kernel_rfl)) hk1 bel hlt1) (trodAll_cons_mk (Below.trod Zab.YtbmhaamjajoggaaDoorB.laidOut (by kernel_rfl) (of_decide_eq_true (by kernel_rfl)) hk2 bel hlt2) (trodAll_cons_mk (Below.trod Zab.YtbmhaamjajoggaaDoorB.laidOut (by kernel_rfl) (of_decide_eq_true (by kernel_rfl)) hk3 bel hlt3) trodAll_mk0)))), rfl, bel.frame _, fun h => by cases h⟩
theorem over : Rows.wireSigsRow.holds Tryd.pinned (OpenSpec.ofChange Rows.wireSigsSpec) :=
  OpenClaim.holds_of_wide 4 Tryd.f4 rfl rfl rfl rfl rfl rfl rfl ⟨rfl, rfl, rfl, rfl, rfl⟩ rfl rfl rfl rfl rfl (by kernel_rfl) Tryd.func4 (by kernel_rfl)
    (of_decide_eq_true (by kernel_rfl)) (by unfold Func.isWrapper; first | (rw [if_pos (by decide +kernel)]; kernel_rfl) | (rw [if_neg (by decide +kernel)]; exact ⟨rfl, rfl⟩))
    (fun os started H enc _ => lifted os started H enc)
set_option maxRecDepth 100000 in
theorem card : Rows.WireSigsCardSaid :=
  Claim7.holds_tied_plain_at .later [] [.sentinel, .sentinel, .sentinel, .sentinel, .sentinel, .sentinel, .sentinel, .sentinel, .sentinel, .sentinel, .sentinel, .sentinel, .sentinel, .sentinel] true (true, "887931dc4a6c0b6c7dff82051388d74c51743a57a10fcb7a13ad196d7db6621b") true
    over (fun _ h => by cases h) (by kernel_rfl) (fun _ h => by cases h) wireSigs_row_tie rfl ⟨rfl, rfl⟩ (by kernel_rfl) rfl
    (fun f fn hf hfn => by
      obtain rfl : f = 4 := Option.some.inj ((show Tryd.prog.funcNamed "alembic/alembiclaw11.WireSigs" = some 4 by kernel_rfl).symm.trans hf) |>.symm
      obtain rfl : fn = Tryd.f4 := (Option.some.inj (Tryd.func4.symm.trans hfn)).symm
      exact ⟨by kernel_rfl, fun j t ht => by
        rw [Tryd.params4] at ht
        have hm : t ∈ [3, 34, 29, 30] := by
          have := Array.mem_of_getElem? ht
          simpa using this
        simp only [List.mem_cons, List.not_mem_nil, or_false, or_self] at hm
        rcases hm with rfl | rfl | rfl | rfl
        all_goals first | exact (show Tryd.prog.wantsStandIn 3 = false by kernel_rfl) | exact (show Tryd.prog.wantsStandIn 29 = false by kernel_rfl) | exact (show Tryd.prog.wantsStandIn 30 = false by kernel_rfl) | exact (show Tryd.prog.wantsStandIn 34 = false by kernel_rfl)⟩)
    (by kernel_rfl)
end Go.Proofs.YtbmhaamjajoggaaDoor.wireSigsZ
namespace Go.Proofs.YtbmhaamjajoggaaDoor
/-- The tied card. -/
theorem wireSigs_card : Rows.WireSigsCardSaid := wireSigsZ.card
#print axioms wireSigs_card
end Go.Proofs.YtbmhaamjajoggaaDoor
