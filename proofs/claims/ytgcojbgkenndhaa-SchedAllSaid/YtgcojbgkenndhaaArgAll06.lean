/- The arguments of 'SchedAll'. -/
import Derived.Test.YtgcojbgkenndhaaAll06
import Derived.Test.YtgcojbgkenndhaaRows
namespace Go.Proofs.Ytgcojbgkenndhaa
set_option linter.unusedSimpArgs false
set_option linter.unusedVariables false
set_option maxRecDepth 100000
open Go Go.RowKit Go.WideShapes
section
variable {H : Type} {enc : TypeId × Value → H}
theorem rd_int2 {W : World} {cs : List Value} (h : Rdb enc Try.prog W 3 cs) : ∃ x, RInt x cs := by
  obtain ⟨n, h1, _⟩ := Rdb.int Try.underlying3 h
  exact ⟨n, h1⟩
theorem rd_in2 {W : World} {cs : List Value} (h : Rdb enc Try.prog W 92 cs) : ∃ x, RIn x cs := by
  obtain ⟨hl, hf⟩ := h.struct Try.underlying92
  have hl' : cs.length = 2 := hl.trans (by kernel_rfl)
  match cs, hl' with
  | [a0, a1], _ =>
    simp only [List.forall_mem_cons] at hf
    obtain ⟨h0, h1, _⟩ := hf
    obtain ⟨x0, e0, _⟩ := Rdb.int (cs := [a0]) Try.underlying3 h0
    obtain ⟨x1, e1, _⟩ := Rdb.int (cs := [a1]) Try.underlying3 h1
    simp only [List.cons.injEq, and_true] at e0 e1
    exact ⟨(x0, x1), by simp only [RIn, e0, e1]⟩
theorem rd_th2 {W : World} {cs : List Value} (h : Rdb enc Try.prog W 91 cs) : ∃ x, RTh W x cs := by
  obtain ⟨v, l, h1, h2⟩ := h.slice (R := RIn) Try.underlying91 (by rw [show Try.prog.cellsOf 92 = 2 by kernel_rfl]; omega) (fun cs h => rd_in2 h)
  rw [show Try.prog.cellsOf 92 = 2 by kernel_rfl] at h2
  exact ⟨l, v, h1, h2⟩
theorem walkSchedAll (W : World) (v0 v1 : Value) {b : Nat} (o0 : Value.okWide Try.prog W .any b 28 v0) (o1 : Value.okWide Try.prog W .any b 77 v1) (r0 : Rdb enc Try.prog W 28 v0.cells.toList) (r1 : Rdb enc Try.prog W 77 v1.cells.toList) :
    Calls Try.prog 10 #[v0, v1] W fun e w' => e = .returned (.bool true) ∧ Below W.heap.size W w' := by
  obtain ⟨l, hl⟩ := arg_slice (R := RInt) Try.underlying28 (by rw [show Try.prog.cellsOf 3 = 1 by kernel_rfl]; omega) (fun cs h => rd_int2 h) o0 r0
  rw [show Try.prog.cellsOf 3 = 1 by kernel_rfl] at hl
  obtain ⟨th, ht⟩ := arg_slice (R := RTh W) Try.underlying77 (by rw [show Try.prog.cellsOf 91 = 1 by kernel_rfl]; omega) (fun cs h => rd_th2 h) o1 r1
  rw [show Try.prog.cellsOf 91 = 1 by kernel_rfl] at ht
  exact (all06 ht hl fun _ _ => rfl).calls
end
end Go.Proofs.Ytgcojbgkenndhaa
