/- A law's call over plain arguments. -/
import Derived.Test.YthfbehemcpghaaaAbs
import Derived.Test.YthfbehemcpghaaaChecked
import Derived.Test.YthfbehemcpghaaaZabEnd
import Derived.WalkKit
namespace Zab.Ythfbehemcpghaaa
open Go Go.Proofs

noncomputable def env : Env := ⟨Try.prog, fun _ => none, 0⟩
theorem envOk : EnvOk env [] := ⟨fun g h => (by cases h), fun ⟨g, b, h⟩ => (by cases h), fun ⟨g, b, h⟩ => (by cases h), Try.checked.mixed⟩
theorem gok (W : World) : GOk env W := ⟨fun g b h => (by cases h), fun g b h => (by cases h), fun g h b h1 => (by cases h1)⟩
/-- A law's call over plain arguments. -/
theorem law {f : Nat} {args : List AV} {t : Bool} (h : FF tab f args = some ⟨.b t, []⟩) (W : World) (cargs : Array Value) (hn : noOps args = true) (hsz : cargs.size = args.length)
    (hv : ∀ j (h1 : j < args.length) (h2 : j < cargs.size), VRep env args.length W (fun b => b < W.heap.size) (fun _ => 0) (fun _ => 0) args[j] cargs[j]) :
    Calls Try.prog f cargs W fun e W' => e = .returned (.bool t) ∧ RowKit.Below W.heap.size W W' :=
  law_calls (E := env) envOk htab h (gok W) hn hsz hv
end Zab.Ythfbehemcpghaaa
