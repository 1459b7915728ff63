/- The argument of 'RingNone'. -/
import Derived.Test.YtbjgoajdfdonfaaNone11
import Derived.Test.YtbjgoajdfdonfaaRows
namespace Go.Proofs.Ytbjgoajdfdonfaa
set_option linter.unusedSimpArgs false
set_option linter.unusedVariables false
set_option maxRecDepth 100000
open Go Go.RowKit Go.WideShapes
section
variable {H : Type} {enc : TypeId × Value → H}
theorem walkRingNone (W : World) (v0 : Value) {b : Nat} (o0 : Value.okWide Try.prog W .any b 3 v0) (r0 : Rdb enc Try.prog W 3 v0.cells.toList) :
    Calls Try.prog 14 #[v0] W fun e w' => e = .returned (.bool true) ∧ Below W.heap.size W w' := by
  obtain ⟨n, rfl, hn⟩ := arg_int Try.underlying3 o0 r0
  exact (none11 fun _ _ => rfl).calls
end
end Go.Proofs.Ytbjgoajdfdonfaa
