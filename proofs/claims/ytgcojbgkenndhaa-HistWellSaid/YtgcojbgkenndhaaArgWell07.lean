/- The argument of 'HistWell'. -/
import Derived.Test.YtgcojbgkenndhaaHistW
import Derived.Test.YtgcojbgkenndhaaRows
namespace Go.Proofs.Ytgcojbgkenndhaa
set_option linter.unusedSimpArgs false
set_option linter.unusedVariables false
set_option maxRecDepth 100000
open Go Go.RowKit Go.WideShapes
section
variable {H : Type} {enc : TypeId × Value → H}
theorem rd_u8 {W : World} {cs : List Value} (h : Rdb enc Try.prog W 5 cs) : ∃ x, RU8 x cs := by
  obtain ⟨n, h1, h2⟩ := Rdb.int Try.underlying5 h
  have := wf_u8 h2
  exact ⟨n, h1, this.1, this.2⟩
theorem walkHistWell (W : World) (v0 : Value) {b : Nat} (o0 : Value.okWide Try.prog W .any b 70 v0) (r0 : Rdb enc Try.prog W 70 v0.cells.toList) :
    Calls Try.prog 7 #[v0] W fun e w' => e = .returned (.bool true) ∧ Below W.heap.size W w' := by
  obtain ⟨l, hl⟩ := arg_slice (R := RU8) Try.underlying70 (by rw [show Try.prog.cellsOf 5 = 1 by kernel_rfl]; omega) (fun cs h => rd_u8 h) o0 r0
  rw [show Try.prog.cellsOf 5 = 1 by kernel_rfl] at hl
  exact (well07 hl fun _ _ => rfl).calls
end
end Go.Proofs.Ytgcojbgkenndhaa
