/- The arguments of 'EpochNone'. -/
import Derived.Test.YtgcojbgkenndhaaLaw09
import Derived.Test.YtgcojbgkenndhaaRows
namespace Go.Proofs.Ytgcojbgkenndhaa
set_option linter.unusedSimpArgs false
set_option linter.unusedVariables false
set_option maxRecDepth 100000
open Go Go.RowKit Go.WideShapes
section
variable {H : Type} {enc : TypeId × Value → H}
theorem walkEpochNone (W : World) (v0 v1 : Value) {b : Nat} (o0 : Value.okWide Try.prog W .any b 3 v0) (o1 : Value.okWide Try.prog W .any b 3 v1) (r0 : Rdb enc Try.prog W 3 v0.cells.toList) (r1 : Rdb enc Try.prog W 3 v1.cells.toList) :
    Calls Try.prog 5 #[v0, v1] W fun e w' => e = .returned (.bool true) ∧ Below W.heap.size W w' := by
  obtain ⟨n, rfl, hn⟩ := arg_int Try.underlying3 o0 r0
  obtain ⟨n1, rfl, hn1⟩ := arg_int Try.underlying3 o1 r1
  exact (none09 fun _ _ => rfl).calls
end
end Go.Proofs.Ytgcojbgkenndhaa
