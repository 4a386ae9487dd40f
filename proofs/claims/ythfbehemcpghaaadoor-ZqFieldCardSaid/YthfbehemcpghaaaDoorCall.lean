/- A law's call over plain arguments, where the one error reads as laid; one world in which it does. -/
import Derived.Test.YthfbehemcpghaaaDoorAbs
import Derived.Test.YthfbehemcpghaaaDoorChecked
import Derived.Test.YthfbehemcpghaaaDoorRows
import Derived.Test.YthfbehemcpghaaaDoorZabEnd
import Derived.Test.YthfbehemcpghaaaDoorZabLaid
import Derived.WalkKit
import Derived.LaidLaws
import Derived.LaidHandle
namespace Zab.YthfbehemcpghaaaDoor
open Go Go.Proofs Go.Proofs.YthfbehemcpghaaaDoor
set_option maxRecDepth 100000

theorem star : "*" ++ "errors.errorString" = "*errors.errorString" := by decide
theorem rowT (u : TypeId) (h : Tryd.prog.typeName? 3 u = some "*errors.errorString") : u = 35 :=
  typeName_ptr_named (nm := "errors.errorString") (by rw [star]; kernel_rfl) (by kernel_rfl) (by decide) u (by rw [star]; exact h)

/-- A law's call. -/
theorem law {r : List (String × DataW Unit)} {f : Nat} {args : List AV} {t : Bool} {W : World} (hL : laidMet Tryd.prog (("alembic/api.ErrRange", Rows.laid_alembic_api_ErrRange) :: r) W) (h : FF tab f args = some ⟨.b t, []⟩) (cargs : Array Value) (hn : noOps args = true) (hsz : cargs.size = args.length)
    (hv : ∀ b j (h1 : j < args.length) (h2 : j < cargs.size), VRep (env1 Tryd.prog 35 0 b) args.length W (fun b => b < W.heap.size) (fun _ => 0) (fun _ => 0) args[j] cargs[j]) :
    Calls Tryd.prog f cargs W fun e W' => e = .returned (.bool t) ∧ RowKit.Below W.heap.size W W' := by
  obtain ⟨b, hG⟩ := gok1 hL (g := 0) (by kernel_rfl) (by kernel_rfl) Tryd.underlying30 rowT Tryd.underlying35 Tryd.underlying53 rfl rfl Tryd.underlying9 (by kernel_rfl) (by kernel_rfl)
  exact law_calls (E := env1 Tryd.prog 35 0 b) (envOk1 Tryd.underlying35 (by kernel_rfl) (by kernel_rfl) Tryd.checked.mixed) htab h hG hn hsz (hv b)

abbrev overS : ByteArray := { data := #[97, 32, 110, 117, 109, 98, 101, 114, 32, 111, 117, 116, 32, 111, 102, 32, 105, 116, 115, 32, 114, 97, 110, 103, 101] }
noncomputable def low : Nat := (World.holding Tryd.prog default ⟨#[], #[], []⟩).heap.size
/-- A world that meets the condition. -/
noncomputable def laidWorld (os : Os) : World :=
  let w0 := World.holding Tryd.prog os ⟨#[.cells #[.string overS] 53], #[], []⟩
  { w0 with heap := w0.heap.modify 0 fun
      | .cells _ t frozen => .cells #[.iface 35 (.pointer (some ⟨low, 0, none⟩))] t frozen
      | o => o }
theorem laidWorld_met (os : Os) (args : Array Value) : laidMetH Tryd.prog [("alembic/api.ErrRange", Rows.laid_alembic_api_ErrRange)] ((laidWorld os).forCall (fun _ _ => 0) ⟨#[], args, []⟩).memory :=
  laidMet_of_run (ps := [.cell 0 0, .cell low 0]) 8 (by kernel_rfl) (by kernel_rfl) (by kernel_rfl)
end Zab.YthfbehemcpghaaaDoor
