/- A law's call, where so many errors read as laid; one world in which they do. Printed by calln.py. -/
import Derived.Test.YtbmhaamjajoggaaDoorBAbs
import Derived.Test.YtbmhaamjajoggaaDoorChecked
import Derived.Test.YtbmhaamjajoggaaDoorRows
import Derived.Test.YtbmhaamjajoggaaDoorZabG5
import Derived.Test.YtbmhaamjajoggaaDoorZabG7
import Derived.WalkKit
import Derived.LaidLaws
import Derived.LaidHandle
namespace Zab.YtbmhaamjajoggaaDoorB
open Go Go.Proofs Go.Proofs.YtbmhaamjajoggaaDoor
set_option maxRecDepth 100000
set_option linter.unusedVariables false

theorem star : "*" ++ "errors.errorString" = "*errors.errorString" := by decide
theorem rowT (u : TypeId) (h : Tryd.prog.typeName? 3 u = some "*errors.errorString") : u = 171 :=
  typeName_ptr_named (nm := "errors.errorString") (by rw [star]; kernel_rfl) (by kernel_rfl) (by decide) u (by rw [star]; exact h)
theorem errT : ErrTypes Tryd.prog "*errors.errorString" 171 187 9 { name := "s", type := 9, offset := 0, embedded := false, tag := "", pkgPath := "errors", byteOffset := 0 } :=
  { row := rowT, ptr := Tryd.underlying171, str := Tryd.underlying187, fty := rfl, fof := rfl, und := Tryd.underlying9, c1 := by kernel_rfl, c2 := by kernel_rfl }
/-- The errors: their variables, their texts. -/
def texts : List (String × Nat × List UInt8) := [
  ("alembic/api.ErrRange", 2, [97, 32, 110, 117, 109, 98, 101, 114, 32, 111, 117, 116, 32, 111, 102, 32, 105, 116, 115, 32, 114, 97, 110, 103, 101]),
  ("alembic/api.ErrLength", 0, [110, 111, 116, 32, 97, 115, 32, 108, 111, 110, 103, 32, 97, 115, 32, 105, 116, 32, 104, 97, 115, 32, 116, 111, 32, 98, 101]),
  ("alembic/api.ErrMany", 3, [116, 111, 111, 32, 109, 97, 110, 121]),
  ("alembic/api.ErrShape", 1, [110, 111, 116, 32, 97, 115, 32, 105, 116, 32, 104, 97, 115, 32, 116, 111, 32, 98, 101]),
  ("alembic/api.ErrNone", 4, [116, 104, 101, 114, 101, 32, 105, 115, 32, 110, 111, 110, 101]),
  ("alembic/api.ErrOp", 5, [110, 111, 32, 115, 117, 99, 104, 32, 116, 104, 105, 110, 103, 32, 116, 111, 32, 100, 111]),
  ("alembic/api.ErrVar", 6, [110, 111, 32, 115, 117, 99, 104, 32, 118, 97, 114, 105, 97, 98, 108, 101]),
  ("alembic/api.ErrSecret", 7, [97, 32, 115, 101, 99, 114, 101, 116, 32, 119, 104, 101, 114, 101, 32, 105, 116, 32, 109, 97, 121, 32, 110, 111, 116, 32, 98, 101]),
  ("alembic/api.ErrLabel", 8, [110, 111, 32, 115, 117, 99, 104, 32, 112, 108, 97, 99, 101]),
  ("alembic/api.ErrFar", 9, [116, 111, 111, 32, 102, 97, 114]),
  ("alembic/api.ErrFuel", 10, [105, 116, 32, 116, 97, 107, 101, 115, 32, 116, 111, 111, 32, 108, 111, 110, 103]),
  ("alembic/api.ErrFault", 11, [119, 104, 101, 114, 101, 32, 116, 104, 101, 114, 101, 32, 105, 115, 32, 110, 111, 116, 104, 105, 110, 103]),
  ("alembic/api.ErrWord", 12, [110, 111, 32, 115, 117, 99, 104, 32, 119, 111, 114, 100]),
  ("alembic/api.ErrNumber", 13, [110, 111, 116, 32, 97, 32, 110, 117, 109, 98, 101, 114])]
def laidL : List (String × DataW Unit) := [("alembic/api.ErrRange", Rows.laid_alembic_api_ErrRange), ("alembic/api.ErrLength", Rows.laid_alembic_api_ErrLength), ("alembic/api.ErrMany", Rows.laid_alembic_api_ErrMany), ("alembic/api.ErrShape", Rows.laid_alembic_api_ErrShape), ("alembic/api.ErrNone", Rows.laid_alembic_api_ErrNone), ("alembic/api.ErrOp", Rows.laid_alembic_api_ErrOp), ("alembic/api.ErrVar", Rows.laid_alembic_api_ErrVar), ("alembic/api.ErrSecret", Rows.laid_alembic_api_ErrSecret), ("alembic/api.ErrLabel", Rows.laid_alembic_api_ErrLabel), ("alembic/api.ErrFar", Rows.laid_alembic_api_ErrFar), ("alembic/api.ErrFuel", Rows.laid_alembic_api_ErrFuel), ("alembic/api.ErrFault", Rows.laid_alembic_api_ErrFault), ("alembic/api.ErrWord", Rows.laid_alembic_api_ErrWord), ("alembic/api.ErrNumber", Rows.laid_alembic_api_ErrNumber)]
theorem texts_in : ∀ x ∈ texts, (x.1, DataW.iface "*errors.errorString" (.ptr (.agg [.lit (.string x.2.2)]))) ∈ laidL := by
  intro x hx
  simp only [texts, List.mem_cons, List.not_mem_nil, or_false] at hx
  rcases hx with rfl | rfl | rfl | rfl | rfl | rfl | rfl | rfl | rfl | rfl | rfl | rfl | rfl | rfl
  · exact List.Mem.head _
  · exact List.Mem.tail _ (List.Mem.head _)
  · exact List.Mem.tail _ (List.Mem.tail _ (List.Mem.head _))
  · exact List.Mem.tail _ (List.Mem.tail _ (List.Mem.tail _ (List.Mem.head _)))
  · exact List.Mem.tail _ (List.Mem.tail _ (List.Mem.tail _ (List.Mem.tail _ (List.Mem.head _))))
  · exact List.Mem.tail _ (List.Mem.tail _ (List.Mem.tail _ (List.Mem.tail _ (List.Mem.tail _ (List.Mem.head _)))))
  · exact List.Mem.tail _ (List.Mem.tail _ (List.Mem.tail _ (List.Mem.tail _ (List.Mem.tail _ (List.Mem.tail _ (List.Mem.head _))))))
  · exact List.Mem.tail _ (List.Mem.tail _ (List.Mem.tail _ (List.Mem.tail _ (List.Mem.tail _ (List.Mem.tail _ (List.Mem.tail _ (List.Mem.head _)))))))
  · exact List.Mem.tail _ (List.Mem.tail _ (List.Mem.tail _ (List.Mem.tail _ (List.Mem.tail _ (List.Mem.tail _ (List.Mem.tail _ (List.Mem.tail _ (List.Mem.head _))))))))
  · exact List.Mem.tail _ (List.Mem.tail _ (List.Mem.tail _ (List.Mem.tail _ (List.Mem.tail _ (List.Mem.tail _ (List.Mem.tail _ (List.Mem.tail _ (List.Mem.tail _ (List.Mem.head _)))))))))
  · exact List.Mem.tail _ (List.Mem.tail _ (List.Mem.tail _ (List.Mem.tail _ (List.Mem.tail _ (List.Mem.tail _ (List.Mem.tail _ (List.Mem.tail _ (List.Mem.tail _ (List.Mem.tail _ (List.Mem.head _))))))))))
  · exact List.Mem.tail _ (List.Mem.tail _ (List.Mem.tail _ (List.Mem.tail _ (List.Mem.tail _ (List.Mem.tail _ (List.Mem.tail _ (List.Mem.tail _ (List.Mem.tail _ (List.Mem.tail _ (List.Mem.tail _ (List.Mem.head _)))))))))))
  · exact List.Mem.tail _ (List.Mem.tail _ (List.Mem.tail _ (List.Mem.tail _ (List.Mem.tail _ (List.Mem.tail _ (List.Mem.tail _ (List.Mem.tail _ (List.Mem.tail _ (List.Mem.tail _ (List.Mem.tail _ (List.Mem.tail _ (List.Mem.head _))))))))))))
  · exact List.Mem.tail _ (List.Mem.tail _ (List.Mem.tail _ (List.Mem.tail _ (List.Mem.tail _ (List.Mem.tail _ (List.Mem.tail _ (List.Mem.tail _ (List.Mem.tail _ (List.Mem.tail _ (List.Mem.tail _ (List.Mem.tail _ (List.Mem.tail _ (List.Mem.head _)))))))))))))
theorem texts_at : ∀ x ∈ texts, Tryd.prog.globalNamed x.1 = some x.2.1 ∧ ∃ ti ms, (Tryd.prog.globals[x.2.1]?).map (·.type) = some ti ∧ Tryd.prog.underlying ti = some (.interface ms) := by
  intro x hx
  simp only [texts, List.mem_cons, List.not_mem_nil, or_false] at hx
  rcases hx with rfl | rfl | rfl | rfl | rfl | rfl | rfl | rfl | rfl | rfl | rfl | rfl | rfl | rfl
  · exact ⟨by kernel_rfl, 37, _, by kernel_rfl, Tryd.underlying37⟩
  · exact ⟨by kernel_rfl, 37, _, by kernel_rfl, Tryd.underlying37⟩
  · exact ⟨by kernel_rfl, 37, _, by kernel_rfl, Tryd.underlying37⟩
  · exact ⟨by kernel_rfl, 37, _, by kernel_rfl, Tryd.underlying37⟩
  · exact ⟨by kernel_rfl, 37, _, by kernel_rfl, Tryd.underlying37⟩
  · exact ⟨by kernel_rfl, 37, _, by kernel_rfl, Tryd.underlying37⟩
  · exact ⟨by kernel_rfl, 37, _, by kernel_rfl, Tryd.underlying37⟩
  · exact ⟨by kernel_rfl, 37, _, by kernel_rfl, Tryd.underlying37⟩
  · exact ⟨by kernel_rfl, 37, _, by kernel_rfl, Tryd.underlying37⟩
  · exact ⟨by kernel_rfl, 37, _, by kernel_rfl, Tryd.underlying37⟩
  · exact ⟨by kernel_rfl, 37, _, by kernel_rfl, Tryd.underlying37⟩
  · exact ⟨by kernel_rfl, 37, _, by kernel_rfl, Tryd.underlying37⟩
  · exact ⟨by kernel_rfl, 37, _, by kernel_rfl, Tryd.underlying37⟩
  · exact ⟨by kernel_rfl, 37, _, by kernel_rfl, Tryd.underlying37⟩
theorem texts_apart : ∀ x ∈ texts, ∀ y ∈ texts, x.2.2 = y.2.2 → x.2.1 = y.2.1 := by decide +kernel
theorem laidOut : laidOutB Tryd.prog = true := by kernel_rfl

@[reducible] noncomputable def envS (sent : Nat → Option (Nat × Nat)) : Env := ⟨Tryd.prog, sent, 171⟩
/-- A law's call. -/
theorem lawEnv {W : World} (hL : laidMet Tryd.prog laidL W) : ∃ sent, ∀ {f : Nat} {args : List AV} {t : Bool}, FF tab f args = some ⟨.b t, []⟩ → ∀ (cargs : Array Value), cargs.size = args.length →
    (∀ j (h1 : j < args.length) (h2 : j < cargs.toList.length), V1 (envS sent) args.length W (Old W) (fun _ => 0) (fun _ => 0) args[j] cargs.toList[j]) →
    Calls Tryd.prog f cargs W fun e W' => e = .returned (.bool t) ∧ RowKit.Below W.heap.size W W' := by
  obtain ⟨sent, hG, hS⟩ := gokN errT hL texts texts_in texts_at texts_apart
  have hE : EnvOk (envS sent) [0, 1, 2, 3, 4, 5, 6, 7, 8, 9, 10, 11, 12, 13] := envOkN Tryd.underlying171 (by kernel_rfl) (by kernel_rfl) Tryd.checked.mixed (fun g hg => by
    have hb : Nat.blt g 1000000 = true ∧ memb [0, 1, 2, 3, 4, 5, 6, 7, 8, 9, 10, 11, 12, 13] g = true := Bool.and_eq_true_iff.1 hg
    have hm := memb_iff.1 hb.2
    have hlt : g < 1000000 := of_decide_eq_true (by rw [← hb.1]; exact (Bool.eq_iff_iff.2 (by simp [Nat.blt_eq])))
    have all : ∀ g ∈ [0, 1, 2, 3, 4, 5, 6, 7, 8, 9, 10, 11, 12, 13], g < 1000000 → ∃ x ∈ texts, x.2.1 = g := by decide +kernel
    obtain ⟨x, hx, e⟩ := all g hm hlt
    rw [← e]; exact hS x hx) (fun f hf => by
    have hm := memb_iff.1 hf
    have all : ∀ g ∈ [0, 1, 2, 3, 4, 5, 6, 7, 8, 9, 10, 11, 12, 13], g < 1000000 := by decide +kernel
    exact absurd (all _ hm) (by omega))
  refine ⟨sent, fun h cargs hsz hv => ?_⟩
  exact law_calls (E := envS sent) hE htab h hG (noOps_rep (by simpa using hsz) hv) hsz (fun j h1 h2 => hv j h1 (by simpa using h2))

noncomputable def low : Nat := (World.holding Tryd.prog default ⟨#[], #[], []⟩).heap.size
/-- A variable that points to the error of this number. -/
noncomputable def pt (i : Nat) : Obj → Obj
  | .cells _ t frozen => .cells #[.iface 171 (.pointer (some ⟨low + i, 0, none⟩))] t frozen
  | o => o
/-- A world that meets the condition. -/
noncomputable def laidWorld (os : Os) : World :=
  let w0 := World.holding Tryd.prog os ⟨#[.cells #[.string { data := #[97, 32, 110, 117, 109, 98, 101, 114, 32, 111, 117, 116, 32, 111, 102, 32, 105, 116, 115, 32, 114, 97, 110, 103, 101] }] 187, .cells #[.string { data := #[110, 111, 116, 32, 97, 115, 32, 108, 111, 110, 103, 32, 97, 115, 32, 105, 116, 32, 104, 97, 115, 32, 116, 111, 32, 98, 101] }] 187, .cells #[.string { data := #[116, 111, 111, 32, 109, 97, 110, 121] }] 187, .cells #[.string { data := #[110, 111, 116, 32, 97, 115, 32, 105, 116, 32, 104, 97, 115, 32, 116, 111, 32, 98, 101] }] 187, .cells #[.string { data := #[116, 104, 101, 114, 101, 32, 105, 115, 32, 110, 111, 110, 101] }] 187, .cells #[.string { data := #[110, 111, 32, 115, 117, 99, 104, 32, 116, 104, 105, 110, 103, 32, 116, 111, 32, 100, 111] }] 187, .cells #[.string { data := #[110, 111, 32, 115, 117, 99, 104, 32, 118, 97, 114, 105, 97, 98, 108, 101] }] 187, .cells #[.string { data := #[97, 32, 115, 101, 99, 114, 101, 116, 32, 119, 104, 101, 114, 101, 32, 105, 116, 32, 109, 97, 121, 32, 110, 111, 116, 32, 98, 101] }] 187, .cells #[.string { data := #[110, 111, 32, 115, 117, 99, 104, 32, 112, 108, 97, 99, 101] }] 187, .cells #[.string { data := #[116, 111, 111, 32, 102, 97, 114] }] 187, .cells #[.string { data := #[105, 116, 32, 116, 97, 107, 101, 115, 32, 116, 111, 111, 32, 108, 111, 110, 103] }] 187, .cells #[.string { data := #[119, 104, 101, 114, 101, 32, 116, 104, 101, 114, 101, 32, 105, 115, 32, 110, 111, 116, 104, 105, 110, 103] }] 187, .cells #[.string { data := #[110, 111, 32, 115, 117, 99, 104, 32, 119, 111, 114, 100] }] 187, .cells #[.string { data := #[110, 111, 116, 32, 97, 32, 110, 117, 109, 98, 101, 114] }] 187], #[], []⟩
  { w0 with heap := ((((((((((((((w0.heap).modify 2 (pt 0)).modify 0 (pt 1)).modify 3 (pt 2)).modify 1 (pt 3)).modify 4 (pt 4)).modify 5 (pt 5)).modify 6 (pt 6)).modify 7 (pt 7)).modify 8 (pt 8)).modify 9 (pt 9)).modify 10 (pt 10)).modify 11 (pt 11)).modify 12 (pt 12)).modify 13 (pt 13) }
theorem laidWorld_met (os : Os) (args : Array Value) : laidMetH Tryd.prog laidL ((laidWorld os).forCall (fun _ _ => 0) ⟨#[], args, []⟩).memory :=
  laidMet_of_run (ps := [.cell 2 0, .cell (low + 0) 0, .cell 0 0, .cell (low + 1) 0, .cell 3 0, .cell (low + 2) 0, .cell 1 0, .cell (low + 3) 0, .cell 4 0, .cell (low + 4) 0, .cell 5 0, .cell (low + 5) 0, .cell 6 0, .cell (low + 6) 0, .cell 7 0, .cell (low + 7) 0, .cell 8 0, .cell (low + 8) 0, .cell 9 0, .cell (low + 9) 0, .cell 10 0, .cell (low + 10) 0, .cell 11 0, .cell (low + 11) 0, .cell 12 0, .cell (low + 12) 0, .cell 13 0, .cell (low + 13) 0]) 8 (by kernel_rfl) (by kernel_rfl) (by kernel_rfl)
end Zab.YtbmhaamjajoggaaDoorB
