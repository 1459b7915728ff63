/- What a cell's functions come to: contracts, by walks. -/
import Derived.Test.YtdbgeahmhfocaaaEngS
import Derived.Test.YtdbgeahmhfocaaaFacts
namespace Go.Proofs.Ytdbgeahmhfocaaa
set_option linter.unusedSimpArgs false
set_option linter.unusedVariables false
open Go Go.RowKit
section
variable {B : World} {σ : St} {K : Value → St → Prop}

theorem cell_new (x : Int) (hK : K (.pointer (some ⟨σ.n, 0, none⟩)) ((σ.set σ.n (.raw (.cells #[.int .i64 x, .int .i64 0] 52 (0, 0)))).up (σ.n + 1))) : Fn Try.prog B 8 #[.int .i64 x] σ K := by
  refine Fn.of is8 (by simp) fun hwf => ?_
  simp only [b8, Try.f8, Option.getD_some]
  simp -implicitDefEqProofs (disch := first | omega | (simp only [St.set_n, St.up_n, List.length_cons, List.length_nil]; omega)) only [go_sem, Nat.reduceAdd, Nat.reduceMul, Nat.reduceSub, Int.reduceAdd, Int.reduceMul, Int.reduceSub, Int.reduceNeg, Int.reduceToNat]
  exact hK

variable {b o : Nat} {c : Array Value} {ty : TypeId} {n : Int}
/-- What is left of memory: the cell's block, whatever else was made. -/
def leftAs (σ : St) (b : Nat) (c : Array Value) (ty : TypeId) (k : Nat) : St := (σ.set b (.raw (.cells c ty (0, 0)))).up k

/-- The orders of what is done by the closure that swaps. -/
theorem accessI (hm : σ.m b = some (.raw (.cells c ty (0, 0)))) (hn : c[o + 1]? = some (.int .i64 n)) {g : Value}
    (h : FnV Try.prog B g #[] (σ.set b (.raw (.cells (c.setIfInBounds (o + 1) (.int .i64 (IntKind.i64.wrap (n + 1)))) ty (0, 0)))) fun _ σ' => K (.tuple #[]) σ') :
    Fn Try.prog B 58 #[.pointer (some ⟨b, o, none⟩), g] σ K := by
  have hlt : o + 1 < c.size := (Array.getElem?_eq_some_iff.1 hn).1
  refine Fn.of is58 (by simp) fun hwf => ?_
  simp only [b58, Try.f58, Option.getD_some]
  simp -implicitDefEqProofs (disch := first | omega | (simp only [St.set_n, St.up_n, List.length_cons, List.length_nil]; omega)) only [go_sem, Nat.reduceAdd, Nat.reduceMul, Nat.reduceSub, Int.reduceAdd, Int.reduceMul, Int.reduceSub, Int.reduceNeg, Int.reduceToNat, hm, hn]
  refine callK_any ?_
  simpa only [go_sem] using h
theorem accessI_none {g : Value} (hK : K (.tuple #[]) σ) : Fn Try.prog B 58 #[.pointer none, g] σ K := by
  refine Fn.of is58 (by simp) fun hwf => ?_
  simp only [b58, Try.f58, Option.getD_some]
  simp -implicitDefEqProofs (disch := first | omega | (simp only [St.set_n, St.up_n, List.length_cons, List.length_nil]; omega)) only [go_sem, Nat.reduceAdd, Nat.reduceMul, Nat.reduceSub, Int.reduceAdd, Int.reduceMul, Int.reduceSub, Int.reduceNeg, Int.reduceToNat]
  exact hK
theorem peekI {x : Int} (hm : σ.m b = some (.raw (.cells c ty (0, 0)))) (hx : c[o]? = some (.int .i64 x)) (hK : K (.int .i64 x) σ) : Fn Try.prog B 55 #[.pointer (some ⟨b, o, none⟩)] σ K := by
  refine Fn.of is55 (by simp) fun hwf => ?_
  simp only [b55, Try.f55, Option.getD_some]
  simp -implicitDefEqProofs (disch := first | omega | (simp only [St.set_n, St.up_n, List.length_cons, List.length_nil]; omega)) only [go_sem, Nat.reduceAdd, Nat.reduceMul, Nat.reduceSub, Int.reduceAdd, Int.reduceMul, Int.reduceSub, Int.reduceNeg, Int.reduceToNat, hm, hx]
  exact hK
theorem peekI_none (hK : K (.int .i64 0) σ) : Fn Try.prog B 55 #[.pointer none] σ K := by
  refine Fn.of is55 (by simp) fun hwf => ?_
  simp only [b55, Try.f55, Option.getD_some]
  simp -implicitDefEqProofs (disch := first | omega | (simp only [St.set_n, St.up_n, List.length_cons, List.length_nil]; omega)) only [go_sem, Nat.reduceAdd, Nat.reduceMul, Nat.reduceSub, Int.reduceAdd, Int.reduceMul, Int.reduceSub, Int.reduceNeg, Int.reduceToNat]
  exact hK
theorem countI (hm : σ.m b = some (.raw (.cells c ty (0, 0)))) (hn : c[o + 1]? = some (.int .i64 n)) (hK : K (.int .i64 n) σ) : Fn Try.prog B 30 #[.pointer (some ⟨b, o, none⟩)] σ K := by
  refine Fn.of is30 (by simp) fun hwf => ?_
  simp only [b30, Try.f30, Option.getD_some]
  simp -implicitDefEqProofs (disch := first | omega | (simp only [St.set_n, St.up_n, List.length_cons, List.length_nil]; omega)) only [go_sem, Nat.reduceAdd, Nat.reduceMul, Nat.reduceSub, Int.reduceAdd, Int.reduceMul, Int.reduceSub, Int.reduceNeg, Int.reduceToNat, hm, hn]
  exact hK
theorem countI_none (hK : K (.int .i64 0) σ) : Fn Try.prog B 30 #[.pointer none] σ K := by
  refine Fn.of is30 (by simp) fun hwf => ?_
  simp only [b30, Try.f30, Option.getD_some]
  simp -implicitDefEqProofs (disch := first | omega | (simp only [St.set_n, St.up_n, List.length_cons, List.length_nil]; omega)) only [go_sem, Nat.reduceAdd, Nat.reduceMul, Nat.reduceSub, Int.reduceAdd, Int.reduceMul, Int.reduceSub, Int.reduceNeg, Int.reduceToNat]
  exact hK
theorem loadI {x : Int} (hm : σ.m b = some (.raw (.cells c ty (0, 0)))) (hx : c[o]? = some (.int .i64 x)) (hn : c[o + 1]? = some (.int .i64 n))
    (hK : ∀ k, σ.n ≤ k → K (.int .i64 x) (leftAs σ b (c.setIfInBounds (o + 1) (.int .i64 (IntKind.i64.wrap (n + 1)))) ty k)) :
    Fn Try.prog B 42 #[.pointer (some ⟨b, o, none⟩)] σ K := by
  have hlt : o + 1 < c.size := (Array.getElem?_eq_some_iff.1 hn).1
  have hx' : (c.setIfInBounds (o + 1) (.int .i64 (IntKind.i64.wrap (n + 1))))[o]? = some (.int .i64 x) := by rw [Array.getElem?_setIfInBounds_ne (by omega)]; exact hx
  refine Fn.of' is42 (by simp) fun hwf => ?_
  have hb := (hwf.2 b _ hm).2
  simp only [b42, Try.f42, Option.getD_some]
  simp -implicitDefEqProofs (disch := first | omega | (simp only [St.set_n, St.up_n, List.length_cons, List.length_nil]; omega)) only [go_sem, Nat.reduceAdd, Nat.reduceMul, Nat.reduceSub, Int.reduceAdd, Int.reduceMul, Int.reduceSub, Int.reduceNeg, Int.reduceToNat, hm]
  refine callF_of (accessI (c := c) (ty := ty) (n := n) (by simp -implicitDefEqProofs (disch := first | omega | (simp only [St.set_n, St.up_n, List.length_cons, List.length_nil]; omega)) only [go_sem, Nat.reduceAdd, Nat.reduceMul, Nat.reduceSub, Int.reduceAdd, Int.reduceMul, Int.reduceSub, Int.reduceNeg, Int.reduceToNat, hm]) hn ?_)
  simp -implicitDefEqProofs (disch := first | omega | (simp only [St.set_n, St.up_n, List.length_cons, List.length_nil]; omega)) only [go_sem, Nat.reduceAdd, Nat.reduceMul, Nat.reduceSub, Int.reduceAdd, Int.reduceMul, Int.reduceSub, Int.reduceNeg, Int.reduceToNat]
  refine Fn.of is59 (by simp) fun hwf' => ?_
  simp only [b59, Try.f59, Option.getD_some]
  simp -implicitDefEqProofs (disch := first | omega | (simp only [St.set_n, St.up_n, List.length_cons, List.length_nil]; omega)) only [go_sem, Nat.reduceAdd, Nat.reduceMul, Nat.reduceSub, Int.reduceAdd, Int.reduceMul, Int.reduceSub, Int.reduceNeg, Int.reduceToNat, hx']
  refine ⟨_, To.obj (b := b) (by simp -implicitDefEqProofs (disch := first | omega | (simp only [St.set_n, St.up_n, List.length_cons, List.length_nil]; omega)) only [go_sem, Nat.reduceAdd, Nat.reduceMul, Nat.reduceSub, Int.reduceAdd, Int.reduceMul, Int.reduceSub, Int.reduceNeg, Int.reduceToNat] <;> rfl) (fun d y h1 h2 h3 => by simp -implicitDefEqProofs (disch := first | omega | (simp only [St.set_n, St.up_n, List.length_cons, List.length_nil]; omega)) only [go_sem, Nat.reduceAdd, Nat.reduceMul, Nat.reduceSub, Int.reduceAdd, Int.reduceMul, Int.reduceSub, Int.reduceNeg, Int.reduceToNat, h3]) hwf, ?_⟩
  exact hK _ (by simp only [St.up_n, St.set_n]; omega)
theorem loadI_none (hK : ∀ k, σ.n ≤ k → K (.int .i64 0) (σ.up k)) : Fn Try.prog B 42 #[.pointer none] σ K := by
  refine Fn.of' is42 (by simp) fun hwf => ?_
  simp only [b42, Try.f42, Option.getD_some]
  simp -implicitDefEqProofs (disch := first | omega | (simp only [St.set_n, St.up_n, List.length_cons, List.length_nil]; omega)) only [go_sem, Nat.reduceAdd, Nat.reduceMul, Nat.reduceSub, Int.reduceAdd, Int.reduceMul, Int.reduceSub, Int.reduceNeg, Int.reduceToNat]
  refine callF_of (accessI_none ?_)
  simp -implicitDefEqProofs (disch := first | omega | (simp only [St.set_n, St.up_n, List.length_cons, List.length_nil]; omega)) only [go_sem, Nat.reduceAdd, Nat.reduceMul, Nat.reduceSub, Int.reduceAdd, Int.reduceMul, Int.reduceSub, Int.reduceNeg, Int.reduceToNat]
  refine ⟨_, To.same (fun d y h2 h3 => by simp -implicitDefEqProofs (disch := first | omega | (simp only [St.set_n, St.up_n, List.length_cons, List.length_nil]; omega)) only [go_sem, Nat.reduceAdd, Nat.reduceMul, Nat.reduceSub, Int.reduceAdd, Int.reduceMul, Int.reduceSub, Int.reduceNeg, Int.reduceToNat, h3]) hwf, ?_⟩
  exact hK _ (by simp only [St.up_n, St.set_n]; omega)
theorem casI {x old new : Int} (hm : σ.m b = some (.raw (.cells c ty (0, 0)))) (hx : c[o]? = some (.int .i64 x)) (hn : c[o + 1]? = some (.int .i64 n))
    (hK : ∀ k, σ.n ≤ k → K (.bool (decide (x = old))) (leftAs σ b (if x = old then (c.setIfInBounds (o + 1) (.int .i64 (IntKind.i64.wrap (n + 1)))).setIfInBounds o (.int .i64 new) else c.setIfInBounds (o + 1) (.int .i64 (IntKind.i64.wrap (n + 1)))) ty k)) :
    Fn Try.prog B 45 #[.pointer (some ⟨b, o, none⟩), .int .i64 old, .int .i64 new] σ K := by
  have hlt : o + 1 < c.size := (Array.getElem?_eq_some_iff.1 hn).1
  have hx' : (c.setIfInBounds (o + 1) (.int .i64 (IntKind.i64.wrap (n + 1))))[o]? = some (.int .i64 x) := by rw [Array.getElem?_setIfInBounds_ne (by omega)]; exact hx
  refine Fn.of' is45 (by simp) fun hwf => ?_
  have hb := (hwf.2 b _ hm).2
  simp only [b45, Try.f45, Option.getD_some]
  simp -implicitDefEqProofs (disch := first | omega | (simp only [St.set_n, St.up_n, List.length_cons, List.length_nil]; omega)) only [go_sem, Nat.reduceAdd, Nat.reduceMul, Nat.reduceSub, Int.reduceAdd, Int.reduceMul, Int.reduceSub, Int.reduceNeg, Int.reduceToNat, hm]
  refine callF_of (accessI (c := c) (ty := ty) (n := n) (by simp -implicitDefEqProofs (disch := first | omega | (simp only [St.set_n, St.up_n, List.length_cons, List.length_nil]; omega)) only [go_sem, Nat.reduceAdd, Nat.reduceMul, Nat.reduceSub, Int.reduceAdd, Int.reduceMul, Int.reduceSub, Int.reduceNeg, Int.reduceToNat, hm]) hn ?_)
  simp -implicitDefEqProofs (disch := first | omega | (simp only [St.set_n, St.up_n, List.length_cons, List.length_nil]; omega)) only [go_sem, Nat.reduceAdd, Nat.reduceMul, Nat.reduceSub, Int.reduceAdd, Int.reduceMul, Int.reduceSub, Int.reduceNeg, Int.reduceToNat]
  refine Fn.of is60 (by simp) fun hwf' => ?_
  simp only [b60, Try.f60, Option.getD_some]
  simp -implicitDefEqProofs (disch := first | omega | (simp only [St.set_n, St.up_n, List.length_cons, List.length_nil]; omega)) only [go_sem, Nat.reduceAdd, Nat.reduceMul, Nat.reduceSub, Int.reduceAdd, Int.reduceMul, Int.reduceSub, Int.reduceNeg, Int.reduceToNat, hx']
  refine effD_tail (by kernel_rfl) ?_
  simp -implicitDefEqProofs (disch := first | omega | (simp only [St.set_n, St.up_n, List.length_cons, List.length_nil]; omega)) only [go_sem, Nat.reduceAdd, Nat.reduceMul, Nat.reduceSub, Int.reduceAdd, Int.reduceMul, Int.reduceSub, Int.reduceNeg, Int.reduceToNat]
  by_cases h : x = old
  · subst h
    simp -implicitDefEqProofs (disch := first | omega | (simp only [St.set_n, St.up_n, List.length_cons, List.length_nil]; omega)) only [go_sem, Nat.reduceAdd, Nat.reduceMul, Nat.reduceSub, Int.reduceAdd, Int.reduceMul, Int.reduceSub, Int.reduceNeg, Int.reduceToNat, hx']
    refine ⟨_, To.obj (b := b) (by simp -implicitDefEqProofs (disch := first | omega | (simp only [St.set_n, St.up_n, List.length_cons, List.length_nil]; omega)) only [go_sem, Nat.reduceAdd, Nat.reduceMul, Nat.reduceSub, Int.reduceAdd, Int.reduceMul, Int.reduceSub, Int.reduceNeg, Int.reduceToNat] <;> rfl) (fun d y h1 h2 h3 => by simp -implicitDefEqProofs (disch := first | omega | (simp only [St.set_n, St.up_n, List.length_cons, List.length_nil]; omega)) only [go_sem, Nat.reduceAdd, Nat.reduceMul, Nat.reduceSub, Int.reduceAdd, Int.reduceMul, Int.reduceSub, Int.reduceNeg, Int.reduceToNat, h3]) hwf, ?_⟩
    simp only [if_true, decide_true] at hK
    exact hK _ (by simp only [St.up_n, St.set_n]; omega)
  · simp -implicitDefEqProofs (disch := first | omega | (simp only [St.set_n, St.up_n, List.length_cons, List.length_nil]; omega)) only [go_sem, Nat.reduceAdd, Nat.reduceMul, Nat.reduceSub, Int.reduceAdd, Int.reduceMul, Int.reduceSub, Int.reduceNeg, Int.reduceToNat, h]
    refine ⟨_, To.obj (b := b) (by simp -implicitDefEqProofs (disch := first | omega | (simp only [St.set_n, St.up_n, List.length_cons, List.length_nil]; omega)) only [go_sem, Nat.reduceAdd, Nat.reduceMul, Nat.reduceSub, Int.reduceAdd, Int.reduceMul, Int.reduceSub, Int.reduceNeg, Int.reduceToNat] <;> rfl) (fun d y h1 h2 h3 => by simp -implicitDefEqProofs (disch := first | omega | (simp only [St.set_n, St.up_n, List.length_cons, List.length_nil]; omega)) only [go_sem, Nat.reduceAdd, Nat.reduceMul, Nat.reduceSub, Int.reduceAdd, Int.reduceMul, Int.reduceSub, Int.reduceNeg, Int.reduceToNat, h3]) hwf, ?_⟩
    simp only [h, if_false, decide_false] at hK
    exact hK _ (by simp only [St.up_n, St.set_n]; omega)
theorem casI_none {old new : Int} (hK : ∀ k, σ.n ≤ k → K (.bool false) (σ.up k)) : Fn Try.prog B 45 #[.pointer none, .int .i64 old, .int .i64 new] σ K := by
  refine Fn.of' is45 (by simp) fun hwf => ?_
  simp only [b45, Try.f45, Option.getD_some]
  simp -implicitDefEqProofs (disch := first | omega | (simp only [St.set_n, St.up_n, List.length_cons, List.length_nil]; omega)) only [go_sem, Nat.reduceAdd, Nat.reduceMul, Nat.reduceSub, Int.reduceAdd, Int.reduceMul, Int.reduceSub, Int.reduceNeg, Int.reduceToNat]
  refine callF_of (accessI_none ?_)
  simp -implicitDefEqProofs (disch := first | omega | (simp only [St.set_n, St.up_n, List.length_cons, List.length_nil]; omega)) only [go_sem, Nat.reduceAdd, Nat.reduceMul, Nat.reduceSub, Int.reduceAdd, Int.reduceMul, Int.reduceSub, Int.reduceNeg, Int.reduceToNat]
  refine ⟨_, To.same (fun d y h2 h3 => by simp -implicitDefEqProofs (disch := first | omega | (simp only [St.set_n, St.up_n, List.length_cons, List.length_nil]; omega)) only [go_sem, Nat.reduceAdd, Nat.reduceMul, Nat.reduceSub, Int.reduceAdd, Int.reduceMul, Int.reduceSub, Int.reduceNeg, Int.reduceToNat, h3]) hwf, ?_⟩
  exact hK _ (by simp only [St.up_n, St.set_n]; omega)
end
end Go.Proofs.Ytdbgeahmhfocaaa
