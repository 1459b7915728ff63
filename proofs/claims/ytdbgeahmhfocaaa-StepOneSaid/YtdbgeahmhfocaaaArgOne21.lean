/- The arguments of 'StepOne'. -/
import Derived.Test.YtdbgeahmhfocaaaOneW
import Derived.Test.YtdbgeahmhfocaaaRows
namespace Go.Proofs.Ytdbgeahmhfocaaa
set_option linter.unusedSimpArgs false
set_option linter.unusedVariables false
set_option maxRecDepth 100000
open Go Go.RowKit Go.WideShapes
section
variable {H : Type} {enc : TypeId × Value → H}
theorem rd_int {W : World} {cs : List Value} (h : Rdb enc Try.prog W 3 cs) : ∃ x, RInt x cs := by
  obtain ⟨n, h1, _⟩ := Rdb.int Try.underlying3 h
  exact ⟨n, h1⟩
theorem walkStepOne (W : World) (v0 v1 v2 : Value) {b : Nat} (o0 : Value.okWide Try.prog W .any b 22 v0) (o1 : Value.okWide Try.prog W .any b 3 v1) (o2 : Value.okWide Try.prog W .any b 3 v2) (r0 : Rdb enc Try.prog W 22 v0.cells.toList) (r1 : Rdb enc Try.prog W 3 v1.cells.toList) (r2 : Rdb enc Try.prog W 3 v2.cells.toList) :
    Calls Try.prog 4 #[v0, v1, v2] W fun e w' => e = .returned (.bool true) ∧ Below W.heap.size W w' := by
  obtain ⟨l, hl⟩ := arg_slice (R := RInt) Try.underlying22 (by rw [show Try.prog.cellsOf 3 = 1 by kernel_rfl]; omega) (fun cs h => rd_int h) o0 r0
  rw [show Try.prog.cellsOf 3 = 1 by kernel_rfl] at hl
  obtain ⟨n, rfl, _⟩ := arg_int Try.underlying3 o1 r1
  obtain ⟨m, rfl, _⟩ := arg_int Try.underlying3 o2 r2
  exact (one21 hl fun _ _ => rfl).calls
end
end Go.Proofs.Ytdbgeahmhfocaaa
