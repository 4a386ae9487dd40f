/- A law's call, in a seat without laid errors. -/
import Derived.Test.YtjofbapkeojifaaAbs
import Derived.Test.YtjofbapkeojifaaChecked
import Derived.Test.YtjofbapkeojifaaZabData
import Derived.WalkKit
namespace Zab.Ytjofbapkeojifaa
open Go Go.Proofs

theorem laidOut : laidOutB Try.prog = true := by kernel_rfl
noncomputable def env : Env := ⟨Try.prog, fun _ => none, 0⟩
theorem envOk : EnvOk env [] := ⟨fun g h => (by cases h), fun ⟨g, b, h⟩ => (by cases h), fun ⟨g, b, h⟩ => (by cases h), Try.checked.mixed⟩
theorem gok (W : World) : GOk env W := ⟨fun g b h => (by cases h), fun g b h => (by cases h), fun g h b h1 => (by cases h1)⟩
/-- A law's call. -/
theorem law {f : Nat} {args : List AV} {t : Bool} (h : FF tab f args = some ⟨.b t, []⟩) (W : World) (cargs : Array Value) (hsz : cargs.size = args.length)
    (hv : ∀ j (h1 : j < args.length) (h2 : j < cargs.toList.length), VRep env args.length W (Old W) (fun _ => 0) (fun _ => 0) args[j] cargs.toList[j]) :
    Calls Try.prog f cargs W fun e W' => e = .returned (.bool t) ∧ RowKit.Below W.heap.size W W' :=
  law_calls (E := env) envOk htab h (gok W) (noOps_rep (by simpa using hsz) hv) hsz (fun j h1 h2 => hv j h1 (by simpa using h2))
end Zab.Ytjofbapkeojifaa
