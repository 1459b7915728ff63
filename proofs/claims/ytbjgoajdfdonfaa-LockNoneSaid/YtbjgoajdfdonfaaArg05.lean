/- The arguments of the first two laws of layer 5. -/
import Derived.Test.YtbjgoajdfdonfaaOne05
import Derived.Test.YtbjgoajdfdonfaaRows
namespace Go.Proofs.Ytbjgoajdfdonfaa
set_option linter.unusedSimpArgs false
set_option linter.unusedVariables false
set_option maxRecDepth 100000
open Go Go.RowKit Go.WideShapes
section
variable {H : Type} {enc : TypeId × Value → H}

theorem rd_int {W : World} {cs : List Value} (h : Rdb enc Try.prog W 3 cs) : ∃ x, RInt x cs := by
  obtain ⟨x, hx, _⟩ := h.int Try.underlying3
  exact ⟨x, hx⟩

theorem walkLockOne (W : World) (v0 : Value) {b : Nat} (o0 : Value.okWide Try.prog W .any b 43 v0) (r0 : Rdb enc Try.prog W 43 v0.cells.toList) :
    Calls Try.prog 5 #[v0] W fun e w' => e = .returned (.bool true) ∧ Below W.heap.size W w' := by
  obtain ⟨l, hl⟩ := arg_slice (R := RInt) Try.underlying43 (by rw [show Try.prog.cellsOf 3 = 1 by kernel_rfl]; omega) (fun cs h => rd_int h) o0 r0
  rw [show Try.prog.cellsOf 3 = 1 by kernel_rfl] at hl
  exact (one05 hl fun _ _ => rfl).calls
theorem walkLockNone (W : World) (v0 v1 : Value) {b : Nat} (o0 : Value.okWide Try.prog W .any b 3 v0) (o1 : Value.okWide Try.prog W .any b 3 v1)
    (r0 : Rdb enc Try.prog W 3 v0.cells.toList) (r1 : Rdb enc Try.prog W 3 v1.cells.toList) :
    Calls Try.prog 10 #[v0, v1] W fun e w' => e = .returned (.bool true) ∧ Below W.heap.size W w' := by
  obtain ⟨n, rfl, _⟩ := arg_int Try.underlying3 o0 r0
  obtain ⟨m, rfl, _⟩ := arg_int Try.underlying3 o1 r1
  exact (none05 fun _ _ => rfl).calls
end
end Go.Proofs.Ytbjgoajdfdonfaa
