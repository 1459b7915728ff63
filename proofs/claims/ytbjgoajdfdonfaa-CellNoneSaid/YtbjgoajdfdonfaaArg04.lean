/- The arguments of the laws of layer 4. -/
import Derived.Test.YtbjgoajdfdonfaaNone04
import Derived.Test.YtbjgoajdfdonfaaRows
namespace Go.Proofs.Ytbjgoajdfdonfaa
set_option linter.unusedSimpArgs false
set_option linter.unusedVariables false
set_option maxRecDepth 100000
open Go Go.RowKit Go.WideShapes
section
variable {H : Type} {enc : TypeId × Value → H}

theorem rd_acc {W : World} {cs : List Value} (h : Rdb enc Try.prog W 32 cs) : ∃ x, RAcc x cs := by
  obtain ⟨hl, hf⟩ := h.struct Try.underlying32
  have hl3 : cs.length = 3 := hl.trans (by kernel_rfl)
  match cs, hl3 with
  | [a, b, c], _ =>
    simp only [List.forall_mem_cons] at hf
    obtain ⟨h0, h1, h2, _⟩ := hf
    obtain ⟨x, hx, _⟩ := Rdb.int (cs := [a]) Try.underlying3 h0
    obtain ⟨y, hy, _⟩ := Rdb.int (cs := [b]) Try.underlying3 h1
    obtain ⟨z, hz, _⟩ := Rdb.int (cs := [c]) Try.underlying3 h2
    simp at hx hy hz
    exact ⟨(x, y, z), by simp [RAcc, hx, hy, hz]⟩

theorem walkCellPlays (W : World) (v0 v1 : Value) {b : Nat} (o0 : Value.okWide Try.prog W .any b 3 v0) (o1 : Value.okWide Try.prog W .any b 22 v1)
    (r0 : Rdb enc Try.prog W 3 v0.cells.toList) (r1 : Rdb enc Try.prog W 22 v1.cells.toList) :
    Calls Try.prog 3 #[v0, v1] W fun e w' => e = .returned (.bool true) ∧ Below W.heap.size W w' := by
  obtain ⟨n, rfl, _⟩ := arg_int Try.underlying3 o0 r0
  obtain ⟨l, hl⟩ := arg_slice (R := RAcc) Try.underlying22 (by rw [show Try.prog.cellsOf 32 = 3 by kernel_rfl]; omega) (fun cs h => rd_acc h) o1 r1
  rw [show Try.prog.cellsOf 32 = 3 by kernel_rfl] at hl
  exact (plays04 hl fun _ _ => rfl).calls
theorem walkCellNone (W : World) (v0 v1 : Value) {b : Nat} (o0 : Value.okWide Try.prog W .any b 22 v0) (o1 : Value.okWide Try.prog W .any b 9 v1)
    (r0 : Rdb enc Try.prog W 22 v0.cells.toList) (r1 : Rdb enc Try.prog W 9 v1.cells.toList) :
    Calls Try.prog 4 #[v0, v1] W fun e w' => e = .returned (.bool true) ∧ Below W.heap.size W w' := by
  obtain ⟨l, hl⟩ := arg_slice (R := RAcc) Try.underlying22 (by rw [show Try.prog.cellsOf 32 = 3 by kernel_rfl]; omega) (fun cs h => rd_acc h) o0 r0
  rw [show Try.prog.cellsOf 32 = 3 by kernel_rfl] at hl
  obtain ⟨t, rfl, _⟩ := arg_str Try.underlying9 o1 r1
  exact (none04 hl fun _ _ => rfl).calls
end
end Go.Proofs.Ytbjgoajdfdonfaa
