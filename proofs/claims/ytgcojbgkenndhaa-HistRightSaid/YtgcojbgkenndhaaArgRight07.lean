/- The arguments of 'HistRight'. -/
import Derived.Test.YtgcojbgkenndhaaHistO
import Derived.Test.YtgcojbgkenndhaaArgCall07
namespace Go.Proofs.Ytgcojbgkenndhaa
set_option pp.deepTerms false
set_option pp.deepTerms.threshold 8
set_option linter.unusedSimpArgs false
set_option linter.unusedVariables false
set_option maxRecDepth 100000
open Go Go.RowKit Go.WideShapes
section
variable {H : Type} {enc : TypeId × Value → H}
theorem rd_call {W : World} {cs : List Value} (h : Rdb enc Try.prog W 65 cs) : ∃ x, RCl x cs := by
  obtain ⟨hl, hf⟩ := h.struct Try.underlying65
  have hl' : cs.length = 15 := hl.trans (by kernel_rfl)
  match cs, hl' with
  | [a0, a1, a2, a3, a4, a5, a6, a7, a8, a9, a10, a11, a12, a13, a14], _ =>
    simp only [List.forall_mem_cons] at hf
    obtain ⟨h0, h1, h2, h3, h4, h5, _⟩ := hf
    obtain ⟨x0, e0, _⟩ := Rdb.int (cs := [a0]) Try.underlying3 h0
    obtain ⟨x1, e1, _⟩ := Rdb.int (cs := [a1]) Try.underlying3 h1
    obtain ⟨x2, e2⟩ := rd_op (cs := [a2, a3, a4, a5, a6]) h2
    obtain ⟨x3, e3⟩ := rd_an (cs := [a7, a8, a9, a10, a11, a12]) h3
    obtain ⟨x4, e4, _⟩ := Rdb.int (cs := [a13]) Try.underlying3 h4
    obtain ⟨x5, e5, _⟩ := Rdb.int (cs := [a14]) Try.underlying3 h5
    simp only [List.cons.injEq, and_true] at e0 e1 e4 e5
    simp only [fOp, fAn, List.cons.injEq, and_true] at e2 e3
    refine ⟨⟨x0, x1, x2, x3, x4, x5⟩, ?_⟩
    simp only [RCl, fC, e0, e1, e2, e3, e4, e5]
theorem rd_bl {W : World} {cs : List Value} (h : Rdb enc Try.prog W 4 cs) : ∃ x, RBl x cs := by
  obtain ⟨x, hx⟩ := h.bool Try.underlying4
  exact ⟨x, hx⟩
theorem walkHistRight (W : World) (v0 v1 v2 v3 : Value) {b : Nat} (o0 : Value.okWide Try.prog W .any b 50 v0) (o1 : Value.okWide Try.prog W .any b 27 v1) (o2 : Value.okWide Try.prog W .any b 5 v2) (o3 : Value.okWide Try.prog W .any b 5 v3)
    (r0 : Rdb enc Try.prog W 50 v0.cells.toList) (r1 : Rdb enc Try.prog W 27 v1.cells.toList) (r2 : Rdb enc Try.prog W 5 v2.cells.toList) (r3 : Rdb enc Try.prog W 5 v3.cells.toList) :
    Calls Try.prog 8 #[v0, v1, v2, v3] W fun e w' => e = .returned (.bool true) ∧ Below W.heap.size W w' := by
  obtain ⟨l, hl⟩ := arg_slice (R := RCl) Try.underlying50 (by rw [show Try.prog.cellsOf 65 = 15 by kernel_rfl]; omega) (fun cs h => rd_call h) o0 r0
  rw [show Try.prog.cellsOf 65 = 15 by kernel_rfl] at hl
  obtain ⟨dn, hd⟩ := arg_slice (R := RBl) Try.underlying27 (by rw [show Try.prog.cellsOf 4 = 1 by kernel_rfl]; omega) (fun cs h => rd_bl h) o1 r1
  rw [show Try.prog.cellsOf 4 = 1 by kernel_rfl] at hd
  obtain ⟨n, rfl, hn⟩ := arg_int Try.underlying5 o2 r2
  obtain ⟨m, rfl, hm⟩ := arg_int Try.underlying5 o3 r3
  exact (right07 hl hd (wf_u8 hn) (wf_u8 hm) fun _ _ => rfl).calls
end
end Go.Proofs.Ytgcojbgkenndhaa
