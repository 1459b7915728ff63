/- The arguments of 'StepExcludes'. -/
import Derived.Test.YtdbgeahmhfocaaaExW
import Derived.Test.YtdbgeahmhfocaaaRows
namespace Go.Proofs.Ytdbgeahmhfocaaa
set_option linter.unusedSimpArgs false
set_option linter.unusedVariables false
set_option maxRecDepth 100000
open Go Go.RowKit Go.WideShapes
section
variable {H : Type} {enc : TypeId × Value → H}
theorem rd_int' {W : World} {cs : List Value} (h : Rdb enc Try.prog W 3 cs) : ∃ x, RInt x cs := by
  obtain ⟨n, h1, _⟩ := Rdb.int Try.underlying3 h
  exact ⟨n, h1⟩
theorem rd_ints {W : World} {cs : List Value} (h : Rdb enc Try.prog W 22 cs) : ∃ l, RTs W l cs := by
  obtain ⟨v, l, rfl, hl⟩ := h.slice (R := RInt) Try.underlying22 (by rw [show Try.prog.cellsOf 3 = 1 by kernel_rfl]; omega) (fun cs h => rd_int' h)
  rw [show Try.prog.cellsOf 3 = 1 by kernel_rfl] at hl
  exact ⟨l, v, rfl, hl⟩
theorem walkStepExcludes (W : World) (v0 v1 v2 : Value) {b : Nat} (o0 : Value.okWide Try.prog W .any b 22 v0) (o1 : Value.okWide Try.prog W .any b 23 v1) (o2 : Value.okWide Try.prog W .any b 5 v2) (r0 : Rdb enc Try.prog W 22 v0.cells.toList) (r1 : Rdb enc Try.prog W 23 v1.cells.toList) (r2 : Rdb enc Try.prog W 5 v2.cells.toList) :
    Calls Try.prog 3 #[v0, v1, v2] W fun e w' => e = .returned (.bool true) ∧ Below W.heap.size W w' := by
  obtain ⟨l, hl⟩ := arg_slice (R := RInt) Try.underlying22 (by rw [show Try.prog.cellsOf 3 = 1 by kernel_rfl]; omega) (fun cs h => rd_int' h) o0 r0
  rw [show Try.prog.cellsOf 3 = 1 by kernel_rfl] at hl
  obtain ⟨th, ht⟩ := arg_slice (R := RTs W) Try.underlying23 (by rw [show Try.prog.cellsOf 22 = 1 by kernel_rfl]; omega) (fun cs h => rd_ints h) o1 r1
  rw [show Try.prog.cellsOf 22 = 1 by kernel_rfl] at ht
  obtain ⟨m, rfl, hm⟩ := arg_int Try.underlying5 o2 r2
  exact (excl21 hl ht (by have := wf_u8 hm; omega) fun _ _ => rfl).calls
end
end Go.Proofs.Ytdbgeahmhfocaaa
