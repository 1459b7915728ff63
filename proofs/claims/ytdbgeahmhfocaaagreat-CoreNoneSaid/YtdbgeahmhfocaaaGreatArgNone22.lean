/- The arguments of 'CoreNone'. -/
import Derived.Test.YtdbgeahmhfocaaaGreatNoneW
import Derived.Test.YtdbgeahmhfocaaaGreatRows
namespace Go.Proofs.YtdbgeahmhfocaaaGreat
set_option linter.unusedSimpArgs false
set_option linter.unusedVariables false
set_option maxRecDepth 100000
open Go Go.RowKit Go.WideShapes
section
variable {H : Type} {enc : TypeId × Value → H}
theorem walkCoreNone (W : World) (v0 v1 : Value) {b : Nat} (o0 : Value.okWide Tryz.prog W .any b 3 v0) (o1 : Value.okWide Tryz.prog W .any b 3 v1) (r0 : Rdb enc Tryz.prog W 3 v0.cells.toList) (r1 : Rdb enc Tryz.prog W 3 v1.cells.toList) :
    Calls Tryz.prog 4 #[v0, v1] W fun e w' => e = .returned (.bool true) ∧ Below W.heap.size W w' := by
  obtain ⟨n, rfl, _⟩ := arg_int Tryz.underlying3 o0 r0
  obtain ⟨m, rfl, _⟩ := arg_int Tryz.underlying3 o1 r1
  exact (none22 fun _ _ => rfl).calls
end
end Go.Proofs.YtdbgeahmhfocaaaGreat
