/- The argument of 'EpochSafe'. -/
import Derived.Test.YtgcojbgkenndhaaEWalk
import Derived.Test.YtgcojbgkenndhaaArgPlays09
namespace Go.Proofs.Ytgcojbgkenndhaa
set_option linter.unusedSimpArgs false
set_option linter.unusedVariables false
set_option maxRecDepth 100000
open Go Go.RowKit Go.WideShapes
section
variable {H : Type} {enc : TypeId × Value → H}
theorem walkEpochSafe (W : World) (v0 : Value) {b : Nat} (o0 : Value.okWide Try.prog W .any b 22 v0) (r0 : Rdb enc Try.prog W 22 v0.cells.toList) :
    Calls Try.prog 3 #[v0] W fun e w' => e = .returned (.bool true) ∧ Below W.heap.size W w' := by
  obtain ⟨l, hl⟩ := arg_slice (R := RDeed) Try.underlying22 (by rw [show Try.prog.cellsOf 32 = 2 by kernel_rfl]; omega) (fun cs h => rd_deed h) o0 r0
  rw [show Try.prog.cellsOf 32 = 2 by kernel_rfl] at hl
  exact (safe09 hl fun _ _ => rfl).calls
end
end Go.Proofs.Ytgcojbgkenndhaa
