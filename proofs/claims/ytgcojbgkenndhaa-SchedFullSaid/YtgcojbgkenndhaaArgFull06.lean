/- The argument of 'SchedFull'. -/
import Derived.Test.YtgcojbgkenndhaaFull06
import Derived.Test.YtgcojbgkenndhaaRows
namespace Go.Proofs.Ytgcojbgkenndhaa
set_option pp.deepTerms false
set_option pp.deepTerms.threshold 8
set_option linter.unusedSimpArgs false
set_option linter.unusedVariables false
set_option maxRecDepth 100000
open Go Go.RowKit Go.WideShapes
section
variable {H : Type} {enc : TypeId × Value → H}
theorem rd_int {W : World} {cs : List Value} (h : Rdb enc Try.prog W 3 cs) : ∃ x, RInt x cs := by
  obtain ⟨n, h1, _⟩ := Rdb.int Try.underlying3 h
  exact ⟨n, h1⟩
theorem walkSchedFull (W : World) (v0 : Value) {b : Nat} (o0 : Value.okWide Try.prog W .any b 28 v0) (r0 : Rdb enc Try.prog W 28 v0.cells.toList) :
    Calls Try.prog 11 #[v0] W fun e w' => e = .returned (.bool true) ∧ Below W.heap.size W w' := by
  obtain ⟨l, hl⟩ := arg_slice (R := RInt) Try.underlying28 (by rw [show Try.prog.cellsOf 3 = 1 by kernel_rfl]; omega) (fun cs h => rd_int h) o0 r0
  rw [show Try.prog.cellsOf 3 = 1 by kernel_rfl] at hl
  exact (full06 hl fun _ _ => rfl).calls
end
end Go.Proofs.Ytgcojbgkenndhaa
