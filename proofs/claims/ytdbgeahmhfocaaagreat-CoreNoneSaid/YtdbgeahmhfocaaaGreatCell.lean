/- What a cell's functions come to: contracts, by walks. -/
import Derived.Test.YtdbgeahmhfocaaaGreatEngS
import Derived.Test.YtdbgeahmhfocaaaGreatFacts
namespace Go.Proofs.YtdbgeahmhfocaaaGreat
set_option linter.unusedSimpArgs false
set_option linter.unusedVariables false
open Go Go.RowKit
section
variable {B : World} {σ : St} {K : Value → St → Prop}

variable {b o : Nat} {c : Array Value} {ty : TypeId} {n : Int}
/-- What is left of memory: the cell's block, whatever else was made. -/
def leftAs (σ : St) (b : Nat) (c : Array Value) (ty : TypeId) (k : Nat) : St := (σ.set b (.raw (.cells c ty (0, 0)))).up k

/-- The orders of what is done by the closure that swaps. -/
theorem accessI (hm : σ.m b = some (.raw (.cells c ty (0, 0)))) (hn : c[o + 1]? = some (.int .i64 n)) {g : Value}
    (h : FnV Tryz.prog B g #[] (σ.set b (.raw (.cells (c.setIfInBounds (o + 1) (.int .i64 (IntKind.i64.wrap (n + 1)))) ty (0, 0)))) fun _ σ' => K (.tuple #[]) σ') :
    Fn Tryz.prog B 120 #[.pointer (some ⟨b, o, none⟩), g] σ K := by
  have hlt : o + 1 < c.size := (Array.getElem?_eq_some_iff.1 hn).1
  refine Fn.of is120 (by simp) fun hwf => ?_
  simp only [b120, Tryz.f120, Option.getD_some]
  simp -implicitDefEqProofs (disch := first | omega | (simp only [St.set_n, St.up_n, List.length_cons, List.length_nil]; omega)) only [go_sem, Nat.reduceAdd, Nat.reduceMul, Nat.reduceSub, Int.reduceAdd, Int.reduceMul, Int.reduceSub, Int.reduceNeg, Int.reduceToNat, hm, hn]
  refine callK_any ?_
  simpa only [go_sem] using h
theorem accessI_none {g : Value} (hK : K (.tuple #[]) σ) : Fn Tryz.prog B 120 #[.pointer none, g] σ K := by
  refine Fn.of is120 (by simp) fun hwf => ?_
  simp only [b120, Tryz.f120, Option.getD_some]
  simp -implicitDefEqProofs (disch := first | omega | (simp only [St.set_n, St.up_n, List.length_cons, List.length_nil]; omega)) only [go_sem, Nat.reduceAdd, Nat.reduceMul, Nat.reduceSub, Int.reduceAdd, Int.reduceMul, Int.reduceSub, Int.reduceNeg, Int.reduceToNat]
  exact hK
theorem peekI {x : Int} (hm : σ.m b = some (.raw (.cells c ty (0, 0)))) (hx : c[o]? = some (.int .i64 x)) (hK : K (.int .i64 x) σ) : Fn Tryz.prog B 73 #[.pointer (some ⟨b, o, none⟩)] σ K := by
  refine Fn.of is73 (by simp) fun hwf => ?_
  simp only [b73, Tryz.f73, Option.getD_some]
  simp -implicitDefEqProofs (disch := first | omega | (simp only [St.set_n, St.up_n, List.length_cons, List.length_nil]; omega)) only [go_sem, Nat.reduceAdd, Nat.reduceMul, Nat.reduceSub, Int.reduceAdd, Int.reduceMul, Int.reduceSub, Int.reduceNeg, Int.reduceToNat, hm, hx]
  exact hK
theorem peekI_none (hK : K (.int .i64 0) σ) : Fn Tryz.prog B 73 #[.pointer none] σ K := by
  refine Fn.of is73 (by simp) fun hwf => ?_
  simp only [b73, Tryz.f73, Option.getD_some]
  simp -implicitDefEqProofs (disch := first | omega | (simp only [St.set_n, St.up_n, List.length_cons, List.length_nil]; omega)) only [go_sem, Nat.reduceAdd, Nat.reduceMul, Nat.reduceSub, Int.reduceAdd, Int.reduceMul, Int.reduceSub, Int.reduceNeg, Int.reduceToNat]
  exact hK
theorem casI {x old new : Int} (hm : σ.m b = some (.raw (.cells c ty (0, 0)))) (hx : c[o]? = some (.int .i64 x)) (hn : c[o + 1]? = some (.int .i64 n))
    (hK : ∀ k, σ.n ≤ k → K (.bool (decide (x = old))) (leftAs σ b (if x = old then (c.setIfInBounds (o + 1) (.int .i64 (IntKind.i64.wrap (n + 1)))).setIfInBounds o (.int .i64 new) else c.setIfInBounds (o + 1) (.int .i64 (IntKind.i64.wrap (n + 1)))) ty k)) :
    Fn Tryz.prog B 116 #[.pointer (some ⟨b, o, none⟩), .int .i64 old, .int .i64 new] σ K := by
  have hlt : o + 1 < c.size := (Array.getElem?_eq_some_iff.1 hn).1
  have hx' : (c.setIfInBounds (o + 1) (.int .i64 (IntKind.i64.wrap (n + 1))))[o]? = some (.int .i64 x) := by rw [Array.getElem?_setIfInBounds_ne (by omega)]; exact hx
  refine Fn.of' is116 (by simp) fun hwf => ?_
  have hb := (hwf.2 b _ hm).2
  simp only [b116, Tryz.f116, Option.getD_some]
  simp -implicitDefEqProofs (disch := first | omega | (simp only [St.set_n, St.up_n, List.length_cons, List.length_nil]; omega)) only [go_sem, Nat.reduceAdd, Nat.reduceMul, Nat.reduceSub, Int.reduceAdd, Int.reduceMul, Int.reduceSub, Int.reduceNeg, Int.reduceToNat, hm]
  refine callF_of (accessI (c := c) (ty := ty) (n := n) (by simp -implicitDefEqProofs (disch := first | omega | (simp only [St.set_n, St.up_n, List.length_cons, List.length_nil]; omega)) only [go_sem, Nat.reduceAdd, Nat.reduceMul, Nat.reduceSub, Int.reduceAdd, Int.reduceMul, Int.reduceSub, Int.reduceNeg, Int.reduceToNat, hm]) hn ?_)
  simp -implicitDefEqProofs (disch := first | omega | (simp only [St.set_n, St.up_n, List.length_cons, List.length_nil]; omega)) only [go_sem, Nat.reduceAdd, Nat.reduceMul, Nat.reduceSub, Int.reduceAdd, Int.reduceMul, Int.reduceSub, Int.reduceNeg, Int.reduceToNat]
  refine Fn.of is121 (by simp) fun hwf' => ?_
  simp only [b121, Tryz.f121, Option.getD_some]
  simp -implicitDefEqProofs (disch := first | omega | (simp only [St.set_n, St.up_n, List.length_cons, List.length_nil]; omega)) only [go_sem, Nat.reduceAdd, Nat.reduceMul, Nat.reduceSub, Int.reduceAdd, Int.reduceMul, Int.reduceSub, Int.reduceNeg, Int.reduceToNat, hx']
  refine effD_tail (by kernel_rfl) ?_
  simp -implicitDefEqProofs (disch := first | omega | (simp only [St.set_n, St.up_n, List.length_cons, List.length_nil]; omega)) only [go_sem, Nat.reduceAdd, Nat.reduceMul, Nat.reduceSub, Int.reduceAdd, Int.reduceMul, Int.reduceSub, Int.reduceNeg, Int.reduceToNat]
  by_cases h : x = old
  · subst h
    simp -implicitDefEqProofs (disch := first | omega | (simp only [St.set_n, St.up_n, List.length_cons, List.length_nil]; omega)) only [go_sem, Nat.reduceAdd, Nat.reduceMul, Nat.reduceSub, Int.reduceAdd, Int.reduceMul, Int.reduceSub, Int.reduceNeg, Int.reduceToNat, hx']
    refine ⟨_, To.obj (b := b) (by simp -implicitDefEqProofs (disch := first | omega | (simp only [St.set_n, St.up_n, List.length_cons, List.length_nil]; omega)) only [go_sem, Nat.reduceAdd, Nat.reduceMul, Nat.reduceSub, Int.reduceAdd, Int.reduceMul, Int.reduceSub, Int.reduceNeg, Int.reduceToNat] <;> rfl) (fun d y h1 h2 h3 => by simp -implicitDefEqProofs (disch := first | omega | (simp only [St.set_n, St.up_n, List.length_cons, List.length_nil]; omega)) only [go_sem, Nat.reduceAdd, Nat.reduceMul, Nat.reduceSub, Int.reduceAdd, Int.reduceMul, Int.reduceSub, Int.reduceNeg, Int.reduceToNat, h3]) hwf, ?_⟩
    simp only [if_true, decide_true] at hK
    exact hK _ (by simp only [St.up_n, St.set_n]; omega)
  · simp -implicitDefEqProofs (disch := first | omega | (simp only [St.set_n, St.up_n, List.length_cons, List.length_nil]; omega)) only [go_sem, Nat.reduceAdd, Nat.reduceMul, Nat.reduceSub, Int.reduceAdd, Int.reduceMul, Int.reduceSub, Int.reduceNeg, Int.reduceToNat, h]
    refine ⟨_, To.obj (b := b) (by simp -implicitDefEqProofs (disch := first | omega | (simp only [St.set_n, St.up_n, List.length_cons, List.length_nil]; omega)) only [go_sem, Nat.reduceAdd, Nat.reduceMul, Nat.reduceSub, Int.reduceAdd, Int.reduceMul, Int.reduceSub, Int.reduceNeg, Int.reduceToNat] <;> rfl) (fun d y h1 h2 h3 => by simp -implicitDefEqProofs (disch := first | omega | (simp only [St.set_n, St.up_n, List.length_cons, List.length_nil]; omega)) only [go_sem, Nat.reduceAdd, Nat.reduceMul, Nat.reduceSub, Int.reduceAdd, Int.reduceMul, Int.reduceSub, Int.reduceNeg, Int.reduceToNat, h3]) hwf, ?_⟩
    simp only [h, if_false, decide_false] at hK
    exact hK _ (by simp only [St.up_n, St.set_n]; omega)
theorem casI_none {old new : Int} (hK : ∀ k, σ.n ≤ k → K (.bool false) (σ.up k)) : Fn Tryz.prog B 116 #[.pointer none, .int .i64 old, .int .i64 new] σ K := by
  refine Fn.of' is116 (by simp) fun hwf => ?_
  simp only [b116, Tryz.f116, Option.getD_some]
  simp -implicitDefEqProofs (disch := first | omega | (simp only [St.set_n, St.up_n, List.length_cons, List.length_nil]; omega)) only [go_sem, Nat.reduceAdd, Nat.reduceMul, Nat.reduceSub, Int.reduceAdd, Int.reduceMul, Int.reduceSub, Int.reduceNeg, Int.reduceToNat]
  refine callF_of (accessI_none ?_)
  simp -implicitDefEqProofs (disch := first | omega | (simp only [St.set_n, St.up_n, List.length_cons, List.length_nil]; omega)) only [go_sem, Nat.reduceAdd, Nat.reduceMul, Nat.reduceSub, Int.reduceAdd, Int.reduceMul, Int.reduceSub, Int.reduceNeg, Int.reduceToNat]
  refine ⟨_, To.same (fun d y h2 h3 => by simp -implicitDefEqProofs (disch := first | omega | (simp only [St.set_n, St.up_n, List.length_cons, List.length_nil]; omega)) only [go_sem, Nat.reduceAdd, Nat.reduceMul, Nat.reduceSub, Int.reduceAdd, Int.reduceMul, Int.reduceSub, Int.reduceNeg, Int.reduceToNat, h3]) hwf, ?_⟩
  exact hK _ (by simp only [St.up_n, St.set_n]; omega)
end
end Go.Proofs.YtdbgeahmhfocaaaGreat
