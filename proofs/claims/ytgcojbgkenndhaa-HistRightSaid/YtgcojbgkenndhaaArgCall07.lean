/- Calls and events, by their reading. -/
import Derived.Test.YtgcojbgkenndhaaHistH
import Derived.Test.YtgcojbgkenndhaaRows
namespace Go.Proofs.Ytgcojbgkenndhaa
set_option pp.deepTerms false
set_option pp.deepTerms.threshold 8
set_option linter.unusedSimpArgs false
set_option linter.unusedVariables false
set_option maxRecDepth 100000
open Go Go.RowKit Go.WideShapes
section
variable {H : Type} {enc : TypeId × Value → H}
theorem rd_op {W : World} {cs : List Value} (h : Rdb enc Try.prog W 54 cs) : ∃ x, cs = fOp x := by
  obtain ⟨hl, hf⟩ := h.struct Try.underlying54
  have hl' : cs.length = 5 := hl.trans (by kernel_rfl)
  match cs, hl' with
  | [a, b, c, d, e], _ =>
    simp only [List.forall_mem_cons] at hf
    obtain ⟨h0, h1, h2, h3, h4, _⟩ := hf
    obtain ⟨x0, e0, _⟩ := Rdb.int (cs := [a]) Try.underlying3 h0
    obtain ⟨x1, e1, _⟩ := Rdb.int (cs := [b]) Try.underlying3 h1
    obtain ⟨x2, e2, _⟩ := Rdb.str (cs := [c]) Try.underlying9 h2
    obtain ⟨x3, e3, _⟩ := Rdb.str (cs := [d]) Try.underlying9 h3
    obtain ⟨x4, e4⟩ := Rdb.bool (cs := [e]) Try.underlying4 h4
    simp at e0 e1 e2 e3 e4
    exact ⟨⟨x0, x1, x2, x3, x4⟩, by simp [fOp, e0, e1, e2, e3, e4]⟩
theorem rd_msg {W : World} {cs : List Value} (h : Rdb enc Try.prog W 57 cs) : ∃ t p k, cs = [.string t, .string p, .bool k] := by
  obtain ⟨hl, hf⟩ := h.struct Try.underlying57
  have hl' : cs.length = 3 := hl.trans (by kernel_rfl)
  match cs, hl' with
  | [a, b, c], _ =>
    simp only [List.forall_mem_cons] at hf
    obtain ⟨h0, h1, h2, _⟩ := hf
    obtain ⟨x0, e0, _⟩ := Rdb.str (cs := [a]) Try.underlying9 h0
    obtain ⟨x1, e1, _⟩ := Rdb.str (cs := [b]) Try.underlying9 h1
    obtain ⟨x2, e2⟩ := Rdb.bool (cs := [c]) Try.underlying4 h2
    simp at e0 e1 e2
    exact ⟨x0, x1, x2, by simp [e0, e1, e2]⟩
theorem rd_an {W : World} {cs : List Value} (h : Rdb enc Try.prog W 59 cs) : ∃ x, cs = fAn x := by
  obtain ⟨hl, hf⟩ := h.struct Try.underlying59
  have hl' : cs.length = 6 := hl.trans (by kernel_rfl)
  match cs, hl' with
  | [a, b, c, d, e, f], _ =>
    simp only [List.forall_mem_cons] at hf
    obtain ⟨h0, h1, h2, h3, _⟩ := hf
    obtain ⟨x0, e0, _⟩ := Rdb.int (cs := [a]) Try.underlying55 h0
    obtain ⟨x1, e1, _⟩ := Rdb.int (cs := [b]) Try.underlying3 h1
    obtain ⟨x2, e2, _⟩ := Rdb.int (cs := [c]) Try.underlying3 h2
    obtain ⟨x3, x4, x5, e3⟩ := rd_msg (cs := [d, e, f]) h3
    simp at e0 e1 e2 e3
    exact ⟨⟨x0, x1, x2, x3, x4, x5⟩, by simp [fAn, e0, e1, e2, e3]⟩
theorem rd_event {W : World} {cs : List Value} (h : Rdb enc Try.prog W 61 cs) : ∃ x, REv x cs := by
  obtain ⟨hl, hf⟩ := h.struct Try.underlying61
  have hl' : cs.length = 14 := hl.trans (by kernel_rfl)
  match cs, hl' with
  | [a0, a1, a2, a3, a4, a5, a6, a7, a8, a9, a10, a11, a12, a13], _ =>
    simp only [List.forall_mem_cons] at hf
    obtain ⟨h0, h1, h2, h3, h4, _⟩ := hf
    obtain ⟨x0, e0⟩ := Rdb.bool (cs := [a0]) Try.underlying4 h0
    obtain ⟨x1, e1, _⟩ := Rdb.int (cs := [a1]) Try.underlying3 h1
    obtain ⟨x2, e2, w2⟩ := Rdb.int (cs := [a2]) Try.underlying3 h2
    obtain ⟨x3, e3⟩ := rd_op (cs := [a3, a4, a5, a6, a7]) h3
    obtain ⟨x4, e4⟩ := rd_an (cs := [a8, a9, a10, a11, a12, a13]) h4
    have hw := (wf_i64 w2).1
    simp only [List.cons.injEq, and_true] at e0 e1 e2
    refine ⟨⟨x0, x1, x2, x3, x4⟩, ?_, hw⟩
    rw [← e3, ← e4, e0, e1, e2]; rfl
theorem walkHistPlays (W : World) (v0 : Value) {b : Nat} (o0 : Value.okWide Try.prog W .any b 46 v0) (r0 : Rdb enc Try.prog W 46 v0.cells.toList) :
    Calls Try.prog 6 #[v0] W fun e w' => e = .returned (.bool true) ∧ Below W.heap.size W w' := by
  obtain ⟨l, hl⟩ := arg_slice (R := REv) Try.underlying46 (by rw [show Try.prog.cellsOf 61 = 14 by kernel_rfl]; omega) (fun cs h => rd_event h) o0 r0
  rw [show Try.prog.cellsOf 61 = 14 by kernel_rfl] at hl
  exact (plays07 hl fun _ _ => rfl).calls
end
end Go.Proofs.Ytgcojbgkenndhaa
