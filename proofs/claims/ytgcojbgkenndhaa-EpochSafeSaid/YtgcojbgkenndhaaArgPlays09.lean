/- The arguments of 'EpochPlays'. -/
import Derived.Test.YtgcojbgkenndhaaEPlays
import Derived.Test.YtgcojbgkenndhaaRows
namespace Go.Proofs.Ytgcojbgkenndhaa
set_option linter.unusedSimpArgs false
set_option linter.unusedVariables false
set_option maxRecDepth 100000
open Go Go.RowKit Go.WideShapes
section
variable {H : Type} {enc : TypeId × Value → H}
theorem rd_deed {W : World} {cs : List Value} (h : Rdb enc Try.prog W 32 cs) : ∃ x, RDeed x cs := by
  obtain ⟨hl, hf⟩ := h.struct Try.underlying32
  have hl3 : cs.length = 2 := hl.trans (by kernel_rfl)
  match cs, hl3 with
  | [a, b], _ =>
    simp only [List.forall_mem_cons] at hf
    obtain ⟨h0, h1, _⟩ := hf
    obtain ⟨x, hx, _⟩ := Rdb.int (cs := [a]) Try.underlying3 h0
    obtain ⟨y, hy, _⟩ := Rdb.int (cs := [b]) Try.underlying3 h1
    simp at hx hy
    exact ⟨(x, y), by simp [RDeed, hx, hy]⟩
theorem walkEpochPlays (W : World) (v0 v1 : Value) {b : Nat} (o0 : Value.okWide Try.prog W .any b 3 v0) (o1 : Value.okWide Try.prog W .any b 22 v1)
    (r0 : Rdb enc Try.prog W 3 v0.cells.toList) (r1 : Rdb enc Try.prog W 22 v1.cells.toList) :
    Calls Try.prog 4 #[v0, v1] W fun e w' => e = .returned (.bool true) ∧ Below W.heap.size W w' := by
  obtain ⟨n, rfl, _⟩ := arg_int Try.underlying3 o0 r0
  obtain ⟨l, hl⟩ := arg_slice (R := RDeed) Try.underlying22 (by rw [show Try.prog.cellsOf 32 = 2 by kernel_rfl]; omega) (fun cs h => rd_deed h) o1 r1
  rw [show Try.prog.cellsOf 32 = 2 by kernel_rfl] at hl
  exact (plays09 hl fun _ _ => rfl).calls
end
end Go.Proofs.Ytgcojbgkenndhaa
