/- The arguments of 'RingPlays'. -/
import Derived.Test.YtbjgoajdfdonfaaPlays11
import Derived.Test.YtbjgoajdfdonfaaRows
namespace Go.Proofs.Ytbjgoajdfdonfaa
set_option linter.unusedSimpArgs false
set_option linter.unusedVariables false
set_option maxRecDepth 100000
open Go Go.RowKit Go.WideShapes
section
variable {H : Type} {enc : TypeId × Value → H}

theorem rd_i64 {W : World} {cs : List Value} (h : Rdb enc Try.prog W 3 cs) : ∃ x, RI64 x cs := by
  obtain ⟨x, hx, _⟩ := h.int Try.underlying3
  exact ⟨x, hx⟩
theorem walkRingPlays (W : World) (v0 v1 v2 : Value) {b : Nat} (o0 : Value.okWide Try.prog W .any b 3 v0) (o1 : Value.okWide Try.prog W .any b 43 v1) (o2 : Value.okWide Try.prog W .any b 3 v2)
    (r0 : Rdb enc Try.prog W 3 v0.cells.toList) (r1 : Rdb enc Try.prog W 43 v1.cells.toList) (r2 : Rdb enc Try.prog W 3 v2.cells.toList) :
    Calls Try.prog 13 #[v0, v1, v2] W fun e w' => e = .returned (.bool true) ∧ Below W.heap.size W w' := by
  obtain ⟨n, rfl, _⟩ := arg_int Try.underlying3 o0 r0
  obtain ⟨t, rfl, _⟩ := arg_int Try.underlying3 o2 r2
  obtain ⟨l, hl⟩ := arg_slice (R := RI64) Try.underlying43 (by rw [show Try.prog.cellsOf 3 = 1 by kernel_rfl]; omega) (fun cs h => rd_i64 h) o1 r1
  rw [show Try.prog.cellsOf 3 = 1 by kernel_rfl] at hl
  exact (plays11 hl fun _ _ => rfl).calls
end
end Go.Proofs.Ytbjgoajdfdonfaa
