/- The arguments of 'RingOrder'. -/
import Derived.Test.YtbjgoajdfdonfaaOrder11
import Derived.Test.YtbjgoajdfdonfaaRows
namespace Go.Proofs.Ytbjgoajdfdonfaa
set_option linter.unusedSimpArgs false
set_option linter.unusedVariables false
set_option maxRecDepth 100000
open Go Go.RowKit Go.WideShapes
section
variable {H : Type} {enc : TypeId × Value → H}

theorem rd_rb {W : World} {cs : List Value} (h : Rdb enc Try.prog W 4 cs) : ∃ x, RB x cs := by
  obtain ⟨x, hx⟩ := h.bool Try.underlying4
  exact ⟨x, hx⟩
theorem walkRingOrder (W : World) (v0 v1 : Value) {b : Nat} (o0 : Value.okWide Try.prog W .any b 5 v0) (o1 : Value.okWide Try.prog W .any b 56 v1)
    (r0 : Rdb enc Try.prog W 5 v0.cells.toList) (r1 : Rdb enc Try.prog W 56 v1.cells.toList) :
    Calls Try.prog 11 #[v0, v1] W fun e w' => e = .returned (.bool true) ∧ Below W.heap.size W w' := by
  obtain ⟨n, rfl, hn⟩ := arg_int Try.underlying5 o0 r0
  have hn2 := wf_u8 hn
  obtain ⟨m, rfl⟩ : ∃ m : Nat, n = (m : Int) := ⟨n.toNat, by omega⟩
  obtain ⟨l, hl⟩ := arg_slice (R := RB) Try.underlying56 (by rw [show Try.prog.cellsOf 4 = 1 by kernel_rfl]; omega) (fun cs h => rd_rb h) o1 r1
  rw [show Try.prog.cellsOf 4 = 1 by kernel_rfl] at hl
  exact (order11 (by omega) hl fun _ _ => rfl).calls
end
end Go.Proofs.Ytbjgoajdfdonfaa
