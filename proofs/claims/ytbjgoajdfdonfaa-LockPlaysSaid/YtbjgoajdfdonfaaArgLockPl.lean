/- The arguments of 'LockPlays'. -/
import Derived.Test.YtbjgoajdfdonfaaLockPl
import Derived.Test.YtbjgoajdfdonfaaRows
namespace Go.Proofs.Ytbjgoajdfdonfaa
set_option linter.unusedSimpArgs false
set_option linter.unusedVariables false
set_option maxRecDepth 100000
open Go Go.RowKit Go.WideShapes
section
variable {H : Type} {enc : TypeId × Value → H}

theorem rd_lk {W : World} {cs : List Value} (h : Rdb enc Try.prog W 97 cs) : ∃ x, RLk x cs := by
  obtain ⟨hl, hf⟩ := h.struct Try.underlying97
  have hl3 : cs.length = 3 := hl.trans (by kernel_rfl)
  match cs, hl3 with
  | [a, b, c], _ =>
    simp only [List.forall_mem_cons] at hf
    obtain ⟨h0, h1, h2, _⟩ := hf
    obtain ⟨x, hx, _⟩ := Rdb.int (cs := [a]) Try.underlying3 h0
    obtain ⟨y, hy, _⟩ := Rdb.int (cs := [b]) Try.underlying3 h1
    obtain ⟨z, hz⟩ := Rdb.bool (cs := [c]) Try.underlying4 h2
    simp at hx hy hz
    exact ⟨(x, y, z), by simp [RLk, hx, hy, hz]⟩
theorem walkLockPlays (W : World) (v0 v1 : Value) {b : Nat} (o0 : Value.okWide Try.prog W .any b 3 v0) (o1 : Value.okWide Try.prog W .any b 90 v1)
    (r0 : Rdb enc Try.prog W 3 v0.cells.toList) (r1 : Rdb enc Try.prog W 90 v1.cells.toList) :
    Calls Try.prog 12 #[v0, v1] W fun e w' => e = .returned (.bool true) ∧ Below W.heap.size W w' := by
  obtain ⟨n, rfl, _⟩ := arg_int Try.underlying3 o0 r0
  obtain ⟨l, hl⟩ := arg_slice (R := RLk) Try.underlying90 (by rw [show Try.prog.cellsOf 97 = 3 by kernel_rfl]; omega) (fun cs h => rd_lk h) o1 r1
  rw [show Try.prog.cellsOf 97 = 3 by kernel_rfl] at hl
  exact (plays05 hl fun _ _ => rfl).calls
end
end Go.Proofs.Ytbjgoajdfdonfaa
