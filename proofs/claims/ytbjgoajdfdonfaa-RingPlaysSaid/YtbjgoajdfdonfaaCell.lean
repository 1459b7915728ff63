/- What a cell's functions come to: contracts, by walks. -/
import Derived.Test.YtbjgoajdfdonfaaEngS
import Derived.Test.YtbjgoajdfdonfaaFacts
namespace Go.Proofs.Ytbjgoajdfdonfaa
set_option linter.unusedSimpArgs false
set_option linter.unusedVariables false
open Go Go.RowKit
section
variable {B : World} {σ : St} {K : Value → St → Prop}

theorem cell_new (x : Int) (hK : K (.pointer (some ⟨σ.n, 0, none⟩)) ((σ.set σ.n (.raw (.cells #[.int .i64 x, .int .i64 0] 46 (0, 0)))).up (σ.n + 1))) : Fn Try.prog B 16 #[.int .i64 x] σ K := by
  refine Fn.of is16 (by simp) fun hwf => ?_
  simp only [b16, Try.f16, Option.getD_some]
  simp -implicitDefEqProofs (disch := first | omega | (simp only [St.set_n, St.up_n, List.length_cons, List.length_nil]; omega)) only [go_sem, Nat.reduceAdd, Nat.reduceMul, Nat.reduceSub, Int.reduceAdd, Int.reduceMul, Int.reduceSub, Int.reduceNeg, Int.reduceToNat]
  exact hK

variable {b o : Nat} {c : Array Value} {ty : TypeId} {n : Int}
/-- What is left of memory: the cell's block, whatever else was made. -/
def leftAs (σ : St) (b : Nat) (c : Array Value) (ty : TypeId) (k : Nat) : St := (σ.set b (.raw (.cells c ty (0, 0)))).up k

/-- The orders of what is done by the closure that swaps. -/
theorem accessI (hm : σ.m b = some (.raw (.cells c ty (0, 0)))) (hn : c[o + 1]? = some (.int .i64 n)) {g : Value}
    (h : FnV Try.prog B g #[] (σ.set b (.raw (.cells (c.setIfInBounds (o + 1) (.int .i64 (IntKind.i64.wrap (n + 1)))) ty (0, 0)))) fun _ σ' => K (.tuple #[]) σ') :
    Fn Try.prog B 84 #[.pointer (some ⟨b, o, none⟩), g] σ K := by
  have hlt : o + 1 < c.size := (Array.getElem?_eq_some_iff.1 hn).1
  refine Fn.of is84 (by simp) fun hwf => ?_
  simp only [b84, Try.f84, Option.getD_some]
  simp -implicitDefEqProofs (disch := first | omega | (simp only [St.set_n, St.up_n, List.length_cons, List.length_nil]; omega)) only [go_sem, Nat.reduceAdd, Nat.reduceMul, Nat.reduceSub, Int.reduceAdd, Int.reduceMul, Int.reduceSub, Int.reduceNeg, Int.reduceToNat, hm, hn]
  refine callK_any ?_
  simpa only [go_sem] using h
theorem accessI_none {g : Value} (hK : K (.tuple #[]) σ) : Fn Try.prog B 84 #[.pointer none, g] σ K := by
  refine Fn.of is84 (by simp) fun hwf => ?_
  simp only [b84, Try.f84, Option.getD_some]
  simp -implicitDefEqProofs (disch := first | omega | (simp only [St.set_n, St.up_n, List.length_cons, List.length_nil]; omega)) only [go_sem, Nat.reduceAdd, Nat.reduceMul, Nat.reduceSub, Int.reduceAdd, Int.reduceMul, Int.reduceSub, Int.reduceNeg, Int.reduceToNat]
  exact hK
theorem peekI {x : Int} (hm : σ.m b = some (.raw (.cells c ty (0, 0)))) (hx : c[o]? = some (.int .i64 x)) (hK : K (.int .i64 x) σ) : Fn Try.prog B 19 #[.pointer (some ⟨b, o, none⟩)] σ K := by
  refine Fn.of is19 (by simp) fun hwf => ?_
  simp only [b19, Try.f19, Option.getD_some]
  simp -implicitDefEqProofs (disch := first | omega | (simp only [St.set_n, St.up_n, List.length_cons, List.length_nil]; omega)) only [go_sem, Nat.reduceAdd, Nat.reduceMul, Nat.reduceSub, Int.reduceAdd, Int.reduceMul, Int.reduceSub, Int.reduceNeg, Int.reduceToNat, hm, hx]
  exact hK
theorem peekI_none (hK : K (.int .i64 0) σ) : Fn Try.prog B 19 #[.pointer none] σ K := by
  refine Fn.of is19 (by simp) fun hwf => ?_
  simp only [b19, Try.f19, Option.getD_some]
  simp -implicitDefEqProofs (disch := first | omega | (simp only [St.set_n, St.up_n, List.length_cons, List.length_nil]; omega)) only [go_sem, Nat.reduceAdd, Nat.reduceMul, Nat.reduceSub, Int.reduceAdd, Int.reduceMul, Int.reduceSub, Int.reduceNeg, Int.reduceToNat]
  exact hK
theorem countI (hm : σ.m b = some (.raw (.cells c ty (0, 0)))) (hn : c[o + 1]? = some (.int .i64 n)) (hK : K (.int .i64 n) σ) : Fn Try.prog B 20 #[.pointer (some ⟨b, o, none⟩)] σ K := by
  refine Fn.of is20 (by simp) fun hwf => ?_
  simp only [b20, Try.f20, Option.getD_some]
  simp -implicitDefEqProofs (disch := first | omega | (simp only [St.set_n, St.up_n, List.length_cons, List.length_nil]; omega)) only [go_sem, Nat.reduceAdd, Nat.reduceMul, Nat.reduceSub, Int.reduceAdd, Int.reduceMul, Int.reduceSub, Int.reduceNeg, Int.reduceToNat, hm, hn]
  exact hK
theorem countI_none (hK : K (.int .i64 0) σ) : Fn Try.prog B 20 #[.pointer none] σ K := by
  refine Fn.of is20 (by simp) fun hwf => ?_
  simp only [b20, Try.f20, Option.getD_some]
  simp -implicitDefEqProofs (disch := first | omega | (simp only [St.set_n, St.up_n, List.length_cons, List.length_nil]; omega)) only [go_sem, Nat.reduceAdd, Nat.reduceMul, Nat.reduceSub, Int.reduceAdd, Int.reduceMul, Int.reduceSub, Int.reduceNeg, Int.reduceToNat]
  exact hK
theorem loadI {x : Int} (hm : σ.m b = some (.raw (.cells c ty (0, 0)))) (hx : c[o]? = some (.int .i64 x)) (hn : c[o + 1]? = some (.int .i64 n))
    (hK : ∀ k, σ.n ≤ k → K (.int .i64 x) (leftAs σ b (c.setIfInBounds (o + 1) (.int .i64 (IntKind.i64.wrap (n + 1)))) ty k)) :
    Fn Try.prog B 73 #[.pointer (some ⟨b, o, none⟩)] σ K := by
  have hlt : o + 1 < c.size := (Array.getElem?_eq_some_iff.1 hn).1
  have hx' : (c.setIfInBounds (o + 1) (.int .i64 (IntKind.i64.wrap (n + 1))))[o]? = some (.int .i64 x) := by rw [Array.getElem?_setIfInBounds_ne (by omega)]; exact hx
  refine Fn.of' is73 (by simp) fun hwf => ?_
  have hb := (hwf.2 b _ hm).2
  simp only [b73, Try.f73, Option.getD_some]
  simp -implicitDefEqProofs (disch := first | omega | (simp only [St.set_n, St.up_n, List.length_cons, List.length_nil]; omega)) only [go_sem, Nat.reduceAdd, Nat.reduceMul, Nat.reduceSub, Int.reduceAdd, Int.reduceMul, Int.reduceSub, Int.reduceNeg, Int.reduceToNat, hm]
  refine callF_of (accessI (c := c) (ty := ty) (n := n) (by simp -implicitDefEqProofs (disch := first | omega | (simp only [St.set_n, St.up_n, List.length_cons, List.length_nil]; omega)) only [go_sem, Nat.reduceAdd, Nat.reduceMul, Nat.reduceSub, Int.reduceAdd, Int.reduceMul, Int.reduceSub, Int.reduceNeg, Int.reduceToNat, hm]) hn ?_)
  simp -implicitDefEqProofs (disch := first | omega | (simp only [St.set_n, St.up_n, List.length_cons, List.length_nil]; omega)) only [go_sem, Nat.reduceAdd, Nat.reduceMul, Nat.reduceSub, Int.reduceAdd, Int.reduceMul, Int.reduceSub, Int.reduceNeg, Int.reduceToNat]
  refine Fn.of is86 (by simp) fun hwf' => ?_
  simp only [b86, Try.f86, Option.getD_some]
  simp -implicitDefEqProofs (disch := first | omega | (simp only [St.set_n, St.up_n, List.length_cons, List.length_nil]; omega)) only [go_sem, Nat.reduceAdd, Nat.reduceMul, Nat.reduceSub, Int.reduceAdd, Int.reduceMul, Int.reduceSub, Int.reduceNeg, Int.reduceToNat, hx']
  refine ⟨_, To.obj (b := b) (by simp -implicitDefEqProofs (disch := first | omega | (simp only [St.set_n, St.up_n, List.length_cons, List.length_nil]; omega)) only [go_sem, Nat.reduceAdd, Nat.reduceMul, Nat.reduceSub, Int.reduceAdd, Int.reduceMul, Int.reduceSub, Int.reduceNeg, Int.reduceToNat] <;> rfl) (fun d y h1 h2 h3 => by simp -implicitDefEqProofs (disch := first | omega | (simp only [St.set_n, St.up_n, List.length_cons, List.length_nil]; omega)) only [go_sem, Nat.reduceAdd, Nat.reduceMul, Nat.reduceSub, Int.reduceAdd, Int.reduceMul, Int.reduceSub, Int.reduceNeg, Int.reduceToNat, h3]) hwf, ?_⟩
  exact hK _ (by simp only [St.up_n, St.set_n]; omega)
theorem loadI_none (hK : ∀ k, σ.n ≤ k → K (.int .i64 0) (σ.up k)) : Fn Try.prog B 73 #[.pointer none] σ K := by
  refine Fn.of' is73 (by simp) fun hwf => ?_
  simp only [b73, Try.f73, Option.getD_some]
  simp -implicitDefEqProofs (disch := first | omega | (simp only [St.set_n, St.up_n, List.length_cons, List.length_nil]; omega)) only [go_sem, Nat.reduceAdd, Nat.reduceMul, Nat.reduceSub, Int.reduceAdd, Int.reduceMul, Int.reduceSub, Int.reduceNeg, Int.reduceToNat]
  refine callF_of (accessI_none ?_)
  simp -implicitDefEqProofs (disch := first | omega | (simp only [St.set_n, St.up_n, List.length_cons, List.length_nil]; omega)) only [go_sem, Nat.reduceAdd, Nat.reduceMul, Nat.reduceSub, Int.reduceAdd, Int.reduceMul, Int.reduceSub, Int.reduceNeg, Int.reduceToNat]
  refine ⟨_, To.same (fun d y h2 h3 => by simp -implicitDefEqProofs (disch := first | omega | (simp only [St.set_n, St.up_n, List.length_cons, List.length_nil]; omega)) only [go_sem, Nat.reduceAdd, Nat.reduceMul, Nat.reduceSub, Int.reduceAdd, Int.reduceMul, Int.reduceSub, Int.reduceNeg, Int.reduceToNat, h3]) hwf, ?_⟩
  exact hK _ (by simp only [St.up_n, St.set_n]; omega)
theorem swapI {x y : Int} (hm : σ.m b = some (.raw (.cells c ty (0, 0)))) (hx : c[o]? = some (.int .i64 x)) (hn : c[o + 1]? = some (.int .i64 n))
    (hK : ∀ k, σ.n ≤ k → K (.int .i64 x) (leftAs σ b ((c.setIfInBounds (o + 1) (.int .i64 (IntKind.i64.wrap (n + 1)))).setIfInBounds o (.int .i64 y)) ty k)) :
    Fn Try.prog B 75 #[.pointer (some ⟨b, o, none⟩), .int .i64 y] σ K := by
  have hlt : o + 1 < c.size := (Array.getElem?_eq_some_iff.1 hn).1
  have hx' : (c.setIfInBounds (o + 1) (.int .i64 (IntKind.i64.wrap (n + 1))))[o]? = some (.int .i64 x) := by rw [Array.getElem?_setIfInBounds_ne (by omega)]; exact hx
  refine Fn.of' is75 (by simp) fun hwf => ?_
  have hb := (hwf.2 b _ hm).2
  simp only [b75, Try.f75, Option.getD_some]
  simp -implicitDefEqProofs (disch := first | omega | (simp only [St.set_n, St.up_n, List.length_cons, List.length_nil]; omega)) only [go_sem, Nat.reduceAdd, Nat.reduceMul, Nat.reduceSub, Int.reduceAdd, Int.reduceMul, Int.reduceSub, Int.reduceNeg, Int.reduceToNat, hm]
  refine callF_of (accessI (c := c) (ty := ty) (n := n) (by simp -implicitDefEqProofs (disch := first | omega | (simp only [St.set_n, St.up_n, List.length_cons, List.length_nil]; omega)) only [go_sem, Nat.reduceAdd, Nat.reduceMul, Nat.reduceSub, Int.reduceAdd, Int.reduceMul, Int.reduceSub, Int.reduceNeg, Int.reduceToNat, hm]) hn ?_)
  simp -implicitDefEqProofs (disch := first | omega | (simp only [St.set_n, St.up_n, List.length_cons, List.length_nil]; omega)) only [go_sem, Nat.reduceAdd, Nat.reduceMul, Nat.reduceSub, Int.reduceAdd, Int.reduceMul, Int.reduceSub, Int.reduceNeg, Int.reduceToNat]
  refine Fn.of is88 (by simp) fun hwf' => ?_
  simp only [b88, Try.f88, Option.getD_some]
  simp -implicitDefEqProofs (disch := first | omega | (simp only [St.set_n, St.up_n, List.length_cons, List.length_nil]; omega)) only [go_sem, Nat.reduceAdd, Nat.reduceMul, Nat.reduceSub, Int.reduceAdd, Int.reduceMul, Int.reduceSub, Int.reduceNeg, Int.reduceToNat, hx']
  refine effD_plan [0, 0, 2, 6, 14, 0, 30, 127, 255, 511] [0, 1, 2, 3, 4, 5, 7, 8] (.eagq 0 (.eagq 1 (.eag 2 (.eag 3 (.eagq 4 (.eagq 5 (.alt 6 [0, 5] (.eag 7 (.eag 8 (.alt 9 [] .fin .stop))) .stop))))))) (by kernel_rfl) ?_
  simp -implicitDefEqProofs (disch := first | omega | (simp only [St.set_n, St.up_n, List.length_cons, List.length_nil]; omega)) only [go_sem, Nat.reduceAdd, Nat.reduceMul, Nat.reduceSub, Int.reduceAdd, Int.reduceMul, Int.reduceSub, Int.reduceNeg, Int.reduceToNat, hx']
  refine ⟨_, To.obj (b := b) (by simp -implicitDefEqProofs (disch := first | omega | (simp only [St.set_n, St.up_n, List.length_cons, List.length_nil]; omega)) only [go_sem, Nat.reduceAdd, Nat.reduceMul, Nat.reduceSub, Int.reduceAdd, Int.reduceMul, Int.reduceSub, Int.reduceNeg, Int.reduceToNat] <;> rfl) (fun d y h1 h2 h3 => by simp -implicitDefEqProofs (disch := first | omega | (simp only [St.set_n, St.up_n, List.length_cons, List.length_nil]; omega)) only [go_sem, Nat.reduceAdd, Nat.reduceMul, Nat.reduceSub, Int.reduceAdd, Int.reduceMul, Int.reduceSub, Int.reduceNeg, Int.reduceToNat, h3]) hwf, ?_⟩
  exact hK _ (by simp only [St.up_n, St.set_n]; omega)
theorem swapI_none {y : Int} (hK : ∀ k, σ.n ≤ k → K (.int .i64 0) (σ.up k)) : Fn Try.prog B 75 #[.pointer none, .int .i64 y] σ K := by
  refine Fn.of' is75 (by simp) fun hwf => ?_
  simp only [b75, Try.f75, Option.getD_some]
  simp -implicitDefEqProofs (disch := first | omega | (simp only [St.set_n, St.up_n, List.length_cons, List.length_nil]; omega)) only [go_sem, Nat.reduceAdd, Nat.reduceMul, Nat.reduceSub, Int.reduceAdd, Int.reduceMul, Int.reduceSub, Int.reduceNeg, Int.reduceToNat]
  refine callF_of (accessI_none ?_)
  simp -implicitDefEqProofs (disch := first | omega | (simp only [St.set_n, St.up_n, List.length_cons, List.length_nil]; omega)) only [go_sem, Nat.reduceAdd, Nat.reduceMul, Nat.reduceSub, Int.reduceAdd, Int.reduceMul, Int.reduceSub, Int.reduceNeg, Int.reduceToNat]
  refine ⟨_, To.same (fun d y h2 h3 => by simp -implicitDefEqProofs (disch := first | omega | (simp only [St.set_n, St.up_n, List.length_cons, List.length_nil]; omega)) only [go_sem, Nat.reduceAdd, Nat.reduceMul, Nat.reduceSub, Int.reduceAdd, Int.reduceMul, Int.reduceSub, Int.reduceNeg, Int.reduceToNat, h3]) hwf, ?_⟩
  exact hK _ (by simp only [St.up_n, St.set_n]; omega)
theorem casI {x old new : Int} (hm : σ.m b = some (.raw (.cells c ty (0, 0)))) (hx : c[o]? = some (.int .i64 x)) (hn : c[o + 1]? = some (.int .i64 n))
    (hK : ∀ k, σ.n ≤ k → K (.bool (decide (x = old))) (leftAs σ b (if x = old then (c.setIfInBounds (o + 1) (.int .i64 (IntKind.i64.wrap (n + 1)))).setIfInBounds o (.int .i64 new) else c.setIfInBounds (o + 1) (.int .i64 (IntKind.i64.wrap (n + 1)))) ty k)) :
    Fn Try.prog B 72 #[.pointer (some ⟨b, o, none⟩), .int .i64 old, .int .i64 new] σ K := by
  have hlt : o + 1 < c.size := (Array.getElem?_eq_some_iff.1 hn).1
  have hx' : (c.setIfInBounds (o + 1) (.int .i64 (IntKind.i64.wrap (n + 1))))[o]? = some (.int .i64 x) := by rw [Array.getElem?_setIfInBounds_ne (by omega)]; exact hx
  refine Fn.of' is72 (by simp) fun hwf => ?_
  have hb := (hwf.2 b _ hm).2
  simp only [b72, Try.f72, Option.getD_some]
  simp -implicitDefEqProofs (disch := first | omega | (simp only [St.set_n, St.up_n, List.length_cons, List.length_nil]; omega)) only [go_sem, Nat.reduceAdd, Nat.reduceMul, Nat.reduceSub, Int.reduceAdd, Int.reduceMul, Int.reduceSub, Int.reduceNeg, Int.reduceToNat, hm]
  refine callF_of (accessI (c := c) (ty := ty) (n := n) (by simp -implicitDefEqProofs (disch := first | omega | (simp only [St.set_n, St.up_n, List.length_cons, List.length_nil]; omega)) only [go_sem, Nat.reduceAdd, Nat.reduceMul, Nat.reduceSub, Int.reduceAdd, Int.reduceMul, Int.reduceSub, Int.reduceNeg, Int.reduceToNat, hm]) hn ?_)
  simp -implicitDefEqProofs (disch := first | omega | (simp only [St.set_n, St.up_n, List.length_cons, List.length_nil]; omega)) only [go_sem, Nat.reduceAdd, Nat.reduceMul, Nat.reduceSub, Int.reduceAdd, Int.reduceMul, Int.reduceSub, Int.reduceNeg, Int.reduceToNat]
  refine Fn.of is85 (by simp) fun hwf' => ?_
  simp only [b85, Try.f85, Option.getD_some]
  simp -implicitDefEqProofs (disch := first | omega | (simp only [St.set_n, St.up_n, List.length_cons, List.length_nil]; omega)) only [go_sem, Nat.reduceAdd, Nat.reduceMul, Nat.reduceSub, Int.reduceAdd, Int.reduceMul, Int.reduceSub, Int.reduceNeg, Int.reduceToNat, hx']
  refine effD_tail (by kernel_rfl) ?_
  simp -implicitDefEqProofs (disch := first | omega | (simp only [St.set_n, St.up_n, List.length_cons, List.length_nil]; omega)) only [go_sem, Nat.reduceAdd, Nat.reduceMul, Nat.reduceSub, Int.reduceAdd, Int.reduceMul, Int.reduceSub, Int.reduceNeg, Int.reduceToNat]
  by_cases h : x = old
  · subst h
    simp -implicitDefEqProofs (disch := first | omega | (simp only [St.set_n, St.up_n, List.length_cons, List.length_nil]; omega)) only [go_sem, Nat.reduceAdd, Nat.reduceMul, Nat.reduceSub, Int.reduceAdd, Int.reduceMul, Int.reduceSub, Int.reduceNeg, Int.reduceToNat, hx']
    refine ⟨_, To.obj (b := b) (by simp -implicitDefEqProofs (disch := first | omega | (simp only [St.set_n, St.up_n, List.length_cons, List.length_nil]; omega)) only [go_sem, Nat.reduceAdd, Nat.reduceMul, Nat.reduceSub, Int.reduceAdd, Int.reduceMul, Int.reduceSub, Int.reduceNeg, Int.reduceToNat] <;> rfl) (fun d y h1 h2 h3 => by simp -implicitDefEqProofs (disch := first | omega | (simp only [St.set_n, St.up_n, List.length_cons, List.length_nil]; omega)) only [go_sem, Nat.reduceAdd, Nat.reduceMul, Nat.reduceSub, Int.reduceAdd, Int.reduceMul, Int.reduceSub, Int.reduceNeg, Int.reduceToNat, h3]) hwf, ?_⟩
    simp only [if_true, decide_true] at hK
    exact hK _ (by simp only [St.up_n, St.set_n]; omega)
  · simp -implicitDefEqProofs (disch := first | omega | (simp only [St.set_n, St.up_n, List.length_cons, List.length_nil]; omega)) only [go_sem, Nat.reduceAdd, Nat.reduceMul, Nat.reduceSub, Int.reduceAdd, Int.reduceMul, Int.reduceSub, Int.reduceNeg, Int.reduceToNat, h]
    refine ⟨_, To.obj (b := b) (by simp -implicitDefEqProofs (disch := first | omega | (simp only [St.set_n, St.up_n, List.length_cons, List.length_nil]; omega)) only [go_sem, Nat.reduceAdd, Nat.reduceMul, Nat.reduceSub, Int.reduceAdd, Int.reduceMul, Int.reduceSub, Int.reduceNeg, Int.reduceToNat] <;> rfl) (fun d y h1 h2 h3 => by simp -implicitDefEqProofs (disch := first | omega | (simp only [St.set_n, St.up_n, List.length_cons, List.length_nil]; omega)) only [go_sem, Nat.reduceAdd, Nat.reduceMul, Nat.reduceSub, Int.reduceAdd, Int.reduceMul, Int.reduceSub, Int.reduceNeg, Int.reduceToNat, h3]) hwf, ?_⟩
    simp only [h, if_false, decide_false] at hK
    exact hK _ (by simp only [St.up_n, St.set_n]; omega)
theorem casI_none {old new : Int} (hK : ∀ k, σ.n ≤ k → K (.bool false) (σ.up k)) : Fn Try.prog B 72 #[.pointer none, .int .i64 old, .int .i64 new] σ K := by
  refine Fn.of' is72 (by simp) fun hwf => ?_
  simp only [b72, Try.f72, Option.getD_some]
  simp -implicitDefEqProofs (disch := first | omega | (simp only [St.set_n, St.up_n, List.length_cons, List.length_nil]; omega)) only [go_sem, Nat.reduceAdd, Nat.reduceMul, Nat.reduceSub, Int.reduceAdd, Int.reduceMul, Int.reduceSub, Int.reduceNeg, Int.reduceToNat]
  refine callF_of (accessI_none ?_)
  simp -implicitDefEqProofs (disch := first | omega | (simp only [St.set_n, St.up_n, List.length_cons, List.length_nil]; omega)) only [go_sem, Nat.reduceAdd, Nat.reduceMul, Nat.reduceSub, Int.reduceAdd, Int.reduceMul, Int.reduceSub, Int.reduceNeg, Int.reduceToNat]
  refine ⟨_, To.same (fun d y h2 h3 => by simp -implicitDefEqProofs (disch := first | omega | (simp only [St.set_n, St.up_n, List.length_cons, List.length_nil]; omega)) only [go_sem, Nat.reduceAdd, Nat.reduceMul, Nat.reduceSub, Int.reduceAdd, Int.reduceMul, Int.reduceSub, Int.reduceNeg, Int.reduceToNat, h3]) hwf, ?_⟩
  exact hK _ (by simp only [St.up_n, St.set_n]; omega)
theorem accessS (hm : σ.m b = some (.raw (.cells c ty (0, 0)))) (hn : c[o + 1]? = some (.int .i64 n)) {g : Value}
    (h : FnV Try.prog B g #[] (σ.set b (.raw (.cells (c.setIfInBounds (o + 1) (.int .i64 (IntKind.i64.wrap (n + 1)))) ty (0, 0)))) fun _ σ' => K (.tuple #[]) σ') :
    Fn Try.prog B 76 #[.pointer (some ⟨b, o, none⟩), g] σ K := by
  have hlt : o + 1 < c.size := (Array.getElem?_eq_some_iff.1 hn).1
  refine Fn.of is76 (by simp) fun hwf => ?_
  simp only [b76, Try.f76, Option.getD_some]
  simp -implicitDefEqProofs (disch := first | omega | (simp only [St.set_n, St.up_n, List.length_cons, List.length_nil]; omega)) only [go_sem, Nat.reduceAdd, Nat.reduceMul, Nat.reduceSub, Int.reduceAdd, Int.reduceMul, Int.reduceSub, Int.reduceNeg, Int.reduceToNat, hm, hn]
  refine callK_any ?_
  simpa only [go_sem] using h
theorem accessS_none {g : Value} (hK : K (.tuple #[]) σ) : Fn Try.prog B 76 #[.pointer none, g] σ K := by
  refine Fn.of is76 (by simp) fun hwf => ?_
  simp only [b76, Try.f76, Option.getD_some]
  simp -implicitDefEqProofs (disch := first | omega | (simp only [St.set_n, St.up_n, List.length_cons, List.length_nil]; omega)) only [go_sem, Nat.reduceAdd, Nat.reduceMul, Nat.reduceSub, Int.reduceAdd, Int.reduceMul, Int.reduceSub, Int.reduceNeg, Int.reduceToNat]
  exact hK
theorem peekS {x : ByteArray} (hm : σ.m b = some (.raw (.cells c ty (0, 0)))) (hx : c[o]? = some (.string x)) (hK : K (.string x) σ) : Fn Try.prog B 21 #[.pointer (some ⟨b, o, none⟩)] σ K := by
  refine Fn.of is21 (by simp) fun hwf => ?_
  simp only [b21, Try.f21, Option.getD_some]
  simp -implicitDefEqProofs (disch := first | omega | (simp only [St.set_n, St.up_n, List.length_cons, List.length_nil]; omega)) only [go_sem, Nat.reduceAdd, Nat.reduceMul, Nat.reduceSub, Int.reduceAdd, Int.reduceMul, Int.reduceSub, Int.reduceNeg, Int.reduceToNat, hm, hx]
  exact hK
theorem peekS_none (hK : K (.string ⟨#[]⟩) σ) : Fn Try.prog B 21 #[.pointer none] σ K := by
  refine Fn.of is21 (by simp) fun hwf => ?_
  simp only [b21, Try.f21, Option.getD_some]
  simp -implicitDefEqProofs (disch := first | omega | (simp only [St.set_n, St.up_n, List.length_cons, List.length_nil]; omega)) only [go_sem, Nat.reduceAdd, Nat.reduceMul, Nat.reduceSub, Int.reduceAdd, Int.reduceMul, Int.reduceSub, Int.reduceNeg, Int.reduceToNat]
  exact hK
theorem countS (hm : σ.m b = some (.raw (.cells c ty (0, 0)))) (hn : c[o + 1]? = some (.int .i64 n)) (hK : K (.int .i64 n) σ) : Fn Try.prog B 22 #[.pointer (some ⟨b, o, none⟩)] σ K := by
  refine Fn.of is22 (by simp) fun hwf => ?_
  simp only [b22, Try.f22, Option.getD_some]
  simp -implicitDefEqProofs (disch := first | omega | (simp only [St.set_n, St.up_n, List.length_cons, List.length_nil]; omega)) only [go_sem, Nat.reduceAdd, Nat.reduceMul, Nat.reduceSub, Int.reduceAdd, Int.reduceMul, Int.reduceSub, Int.reduceNeg, Int.reduceToNat, hm, hn]
  exact hK
theorem countS_none (hK : K (.int .i64 0) σ) : Fn Try.prog B 22 #[.pointer none] σ K := by
  refine Fn.of is22 (by simp) fun hwf => ?_
  simp only [b22, Try.f22, Option.getD_some]
  simp -implicitDefEqProofs (disch := first | omega | (simp only [St.set_n, St.up_n, List.length_cons, List.length_nil]; omega)) only [go_sem, Nat.reduceAdd, Nat.reduceMul, Nat.reduceSub, Int.reduceAdd, Int.reduceMul, Int.reduceSub, Int.reduceNeg, Int.reduceToNat]
  exact hK
theorem loadS {x : ByteArray} (hm : σ.m b = some (.raw (.cells c ty (0, 0)))) (hx : c[o]? = some (.string x)) (hn : c[o + 1]? = some (.int .i64 n))
    (hK : ∀ k, σ.n ≤ k → K (.string x) (leftAs σ b (c.setIfInBounds (o + 1) (.int .i64 (IntKind.i64.wrap (n + 1)))) ty k)) :
    Fn Try.prog B 23 #[.pointer (some ⟨b, o, none⟩)] σ K := by
  have hlt : o + 1 < c.size := (Array.getElem?_eq_some_iff.1 hn).1
  have hx' : (c.setIfInBounds (o + 1) (.int .i64 (IntKind.i64.wrap (n + 1))))[o]? = some (.string x) := by rw [Array.getElem?_setIfInBounds_ne (by omega)]; exact hx
  refine Fn.of' is23 (by simp) fun hwf => ?_
  have hb := (hwf.2 b _ hm).2
  simp only [b23, Try.f23, Option.getD_some]
  simp -implicitDefEqProofs (disch := first | omega | (simp only [St.set_n, St.up_n, List.length_cons, List.length_nil]; omega)) only [go_sem, Nat.reduceAdd, Nat.reduceMul, Nat.reduceSub, Int.reduceAdd, Int.reduceMul, Int.reduceSub, Int.reduceNeg, Int.reduceToNat, hm]
  refine callF_of (accessS (c := c) (ty := ty) (n := n) (by simp -implicitDefEqProofs (disch := first | omega | (simp only [St.set_n, St.up_n, List.length_cons, List.length_nil]; omega)) only [go_sem, Nat.reduceAdd, Nat.reduceMul, Nat.reduceSub, Int.reduceAdd, Int.reduceMul, Int.reduceSub, Int.reduceNeg, Int.reduceToNat, hm]) hn ?_)
  simp -implicitDefEqProofs (disch := first | omega | (simp only [St.set_n, St.up_n, List.length_cons, List.length_nil]; omega)) only [go_sem, Nat.reduceAdd, Nat.reduceMul, Nat.reduceSub, Int.reduceAdd, Int.reduceMul, Int.reduceSub, Int.reduceNeg, Int.reduceToNat]
  refine Fn.of is77 (by simp) fun hwf' => ?_
  simp only [b77, Try.f77, Option.getD_some]
  simp -implicitDefEqProofs (disch := first | omega | (simp only [St.set_n, St.up_n, List.length_cons, List.length_nil]; omega)) only [go_sem, Nat.reduceAdd, Nat.reduceMul, Nat.reduceSub, Int.reduceAdd, Int.reduceMul, Int.reduceSub, Int.reduceNeg, Int.reduceToNat, hx']
  refine ⟨_, To.obj (b := b) (by simp -implicitDefEqProofs (disch := first | omega | (simp only [St.set_n, St.up_n, List.length_cons, List.length_nil]; omega)) only [go_sem, Nat.reduceAdd, Nat.reduceMul, Nat.reduceSub, Int.reduceAdd, Int.reduceMul, Int.reduceSub, Int.reduceNeg, Int.reduceToNat] <;> rfl) (fun d y h1 h2 h3 => by simp -implicitDefEqProofs (disch := first | omega | (simp only [St.set_n, St.up_n, List.length_cons, List.length_nil]; omega)) only [go_sem, Nat.reduceAdd, Nat.reduceMul, Nat.reduceSub, Int.reduceAdd, Int.reduceMul, Int.reduceSub, Int.reduceNeg, Int.reduceToNat, h3]) hwf, ?_⟩
  exact hK _ (by simp only [St.up_n, St.set_n]; omega)
theorem loadS_none (hK : ∀ k, σ.n ≤ k → K (.string ⟨#[]⟩) (σ.up k)) : Fn Try.prog B 23 #[.pointer none] σ K := by
  refine Fn.of' is23 (by simp) fun hwf => ?_
  simp only [b23, Try.f23, Option.getD_some]
  simp -implicitDefEqProofs (disch := first | omega | (simp only [St.set_n, St.up_n, List.length_cons, List.length_nil]; omega)) only [go_sem, Nat.reduceAdd, Nat.reduceMul, Nat.reduceSub, Int.reduceAdd, Int.reduceMul, Int.reduceSub, Int.reduceNeg, Int.reduceToNat]
  refine callF_of (accessS_none ?_)
  simp -implicitDefEqProofs (disch := first | omega | (simp only [St.set_n, St.up_n, List.length_cons, List.length_nil]; omega)) only [go_sem, Nat.reduceAdd, Nat.reduceMul, Nat.reduceSub, Int.reduceAdd, Int.reduceMul, Int.reduceSub, Int.reduceNeg, Int.reduceToNat]
  refine ⟨_, To.same (fun d y h2 h3 => by simp -implicitDefEqProofs (disch := first | omega | (simp only [St.set_n, St.up_n, List.length_cons, List.length_nil]; omega)) only [go_sem, Nat.reduceAdd, Nat.reduceMul, Nat.reduceSub, Int.reduceAdd, Int.reduceMul, Int.reduceSub, Int.reduceNeg, Int.reduceToNat, h3]) hwf, ?_⟩
  exact hK _ (by simp only [St.up_n, St.set_n]; omega)
theorem swapS {x y : ByteArray} (hm : σ.m b = some (.raw (.cells c ty (0, 0)))) (hx : c[o]? = some (.string x)) (hn : c[o + 1]? = some (.int .i64 n))
    (hK : ∀ k, σ.n ≤ k → K (.string x) (leftAs σ b ((c.setIfInBounds (o + 1) (.int .i64 (IntKind.i64.wrap (n + 1)))).setIfInBounds o (.string y)) ty k)) :
    Fn Try.prog B 25 #[.pointer (some ⟨b, o, none⟩), .string y] σ K := by
  have hlt : o + 1 < c.size := (Array.getElem?_eq_some_iff.1 hn).1
  have hx' : (c.setIfInBounds (o + 1) (.int .i64 (IntKind.i64.wrap (n + 1))))[o]? = some (.string x) := by rw [Array.getElem?_setIfInBounds_ne (by omega)]; exact hx
  refine Fn.of' is25 (by simp) fun hwf => ?_
  have hb := (hwf.2 b _ hm).2
  simp only [b25, Try.f25, Option.getD_some]
  simp -implicitDefEqProofs (disch := first | omega | (simp only [St.set_n, St.up_n, List.length_cons, List.length_nil]; omega)) only [go_sem, Nat.reduceAdd, Nat.reduceMul, Nat.reduceSub, Int.reduceAdd, Int.reduceMul, Int.reduceSub, Int.reduceNeg, Int.reduceToNat, hm]
  refine callF_of (accessS (c := c) (ty := ty) (n := n) (by simp -implicitDefEqProofs (disch := first | omega | (simp only [St.set_n, St.up_n, List.length_cons, List.length_nil]; omega)) only [go_sem, Nat.reduceAdd, Nat.reduceMul, Nat.reduceSub, Int.reduceAdd, Int.reduceMul, Int.reduceSub, Int.reduceNeg, Int.reduceToNat, hm]) hn ?_)
  simp -implicitDefEqProofs (disch := first | omega | (simp only [St.set_n, St.up_n, List.length_cons, List.length_nil]; omega)) only [go_sem, Nat.reduceAdd, Nat.reduceMul, Nat.reduceSub, Int.reduceAdd, Int.reduceMul, Int.reduceSub, Int.reduceNeg, Int.reduceToNat]
  refine Fn.of is79 (by simp) fun hwf' => ?_
  simp only [b79, Try.f79, Option.getD_some]
  simp -implicitDefEqProofs (disch := first | omega | (simp only [St.set_n, St.up_n, List.length_cons, List.length_nil]; omega)) only [go_sem, Nat.reduceAdd, Nat.reduceMul, Nat.reduceSub, Int.reduceAdd, Int.reduceMul, Int.reduceSub, Int.reduceNeg, Int.reduceToNat, hx']
  refine effD_plan [0, 0, 2, 6, 14, 0, 30, 127, 255, 511] [0, 1, 2, 3, 4, 5, 7, 8] (.eagq 0 (.eagq 1 (.eag 2 (.eag 3 (.eagq 4 (.eagq 5 (.alt 6 [0, 5] (.eag 7 (.eag 8 (.alt 9 [] .fin .stop))) .stop))))))) (by kernel_rfl) ?_
  simp -implicitDefEqProofs (disch := first | omega | (simp only [St.set_n, St.up_n, List.length_cons, List.length_nil]; omega)) only [go_sem, Nat.reduceAdd, Nat.reduceMul, Nat.reduceSub, Int.reduceAdd, Int.reduceMul, Int.reduceSub, Int.reduceNeg, Int.reduceToNat, hx']
  refine ⟨_, To.obj (b := b) (by simp -implicitDefEqProofs (disch := first | omega | (simp only [St.set_n, St.up_n, List.length_cons, List.length_nil]; omega)) only [go_sem, Nat.reduceAdd, Nat.reduceMul, Nat.reduceSub, Int.reduceAdd, Int.reduceMul, Int.reduceSub, Int.reduceNeg, Int.reduceToNat] <;> rfl) (fun d y h1 h2 h3 => by simp -implicitDefEqProofs (disch := first | omega | (simp only [St.set_n, St.up_n, List.length_cons, List.length_nil]; omega)) only [go_sem, Nat.reduceAdd, Nat.reduceMul, Nat.reduceSub, Int.reduceAdd, Int.reduceMul, Int.reduceSub, Int.reduceNeg, Int.reduceToNat, h3]) hwf, ?_⟩
  exact hK _ (by simp only [St.up_n, St.set_n]; omega)
theorem swapS_none {y : ByteArray} (hK : ∀ k, σ.n ≤ k → K (.string ⟨#[]⟩) (σ.up k)) : Fn Try.prog B 25 #[.pointer none, .string y] σ K := by
  refine Fn.of' is25 (by simp) fun hwf => ?_
  simp only [b25, Try.f25, Option.getD_some]
  simp -implicitDefEqProofs (disch := first | omega | (simp only [St.set_n, St.up_n, List.length_cons, List.length_nil]; omega)) only [go_sem, Nat.reduceAdd, Nat.reduceMul, Nat.reduceSub, Int.reduceAdd, Int.reduceMul, Int.reduceSub, Int.reduceNeg, Int.reduceToNat]
  refine callF_of (accessS_none ?_)
  simp -implicitDefEqProofs (disch := first | omega | (simp only [St.set_n, St.up_n, List.length_cons, List.length_nil]; omega)) only [go_sem, Nat.reduceAdd, Nat.reduceMul, Nat.reduceSub, Int.reduceAdd, Int.reduceMul, Int.reduceSub, Int.reduceNeg, Int.reduceToNat]
  refine ⟨_, To.same (fun d y h2 h3 => by simp -implicitDefEqProofs (disch := first | omega | (simp only [St.set_n, St.up_n, List.length_cons, List.length_nil]; omega)) only [go_sem, Nat.reduceAdd, Nat.reduceMul, Nat.reduceSub, Int.reduceAdd, Int.reduceMul, Int.reduceSub, Int.reduceNeg, Int.reduceToNat, h3]) hwf, ?_⟩
  exact hK _ (by simp only [St.up_n, St.set_n]; omega)
theorem casS {x old new : ByteArray} (hm : σ.m b = some (.raw (.cells c ty (0, 0)))) (hx : c[o]? = some (.string x)) (hn : c[o + 1]? = some (.int .i64 n))
    (hK : ∀ k, σ.n ≤ k → K (.bool (decide (x = old))) (leftAs σ b (if x = old then (c.setIfInBounds (o + 1) (.int .i64 (IntKind.i64.wrap (n + 1)))).setIfInBounds o (.string new) else c.setIfInBounds (o + 1) (.int .i64 (IntKind.i64.wrap (n + 1)))) ty k)) :
    Fn Try.prog B 24 #[.pointer (some ⟨b, o, none⟩), .string old, .string new] σ K := by
  have hlt : o + 1 < c.size := (Array.getElem?_eq_some_iff.1 hn).1
  have hx' : (c.setIfInBounds (o + 1) (.int .i64 (IntKind.i64.wrap (n + 1))))[o]? = some (.string x) := by rw [Array.getElem?_setIfInBounds_ne (by omega)]; exact hx
  refine Fn.of' is24 (by simp) fun hwf => ?_
  have hb := (hwf.2 b _ hm).2
  simp only [b24, Try.f24, Option.getD_some]
  simp -implicitDefEqProofs (disch := first | omega | (simp only [St.set_n, St.up_n, List.length_cons, List.length_nil]; omega)) only [go_sem, Nat.reduceAdd, Nat.reduceMul, Nat.reduceSub, Int.reduceAdd, Int.reduceMul, Int.reduceSub, Int.reduceNeg, Int.reduceToNat, hm]
  refine callF_of (accessS (c := c) (ty := ty) (n := n) (by simp -implicitDefEqProofs (disch := first | omega | (simp only [St.set_n, St.up_n, List.length_cons, List.length_nil]; omega)) only [go_sem, Nat.reduceAdd, Nat.reduceMul, Nat.reduceSub, Int.reduceAdd, Int.reduceMul, Int.reduceSub, Int.reduceNeg, Int.reduceToNat, hm]) hn ?_)
  simp -implicitDefEqProofs (disch := first | omega | (simp only [St.set_n, St.up_n, List.length_cons, List.length_nil]; omega)) only [go_sem, Nat.reduceAdd, Nat.reduceMul, Nat.reduceSub, Int.reduceAdd, Int.reduceMul, Int.reduceSub, Int.reduceNeg, Int.reduceToNat]
  refine Fn.of is78 (by simp) fun hwf' => ?_
  simp only [b78, Try.f78, Option.getD_some]
  simp -implicitDefEqProofs (disch := first | omega | (simp only [St.set_n, St.up_n, List.length_cons, List.length_nil]; omega)) only [go_sem, Nat.reduceAdd, Nat.reduceMul, Nat.reduceSub, Int.reduceAdd, Int.reduceMul, Int.reduceSub, Int.reduceNeg, Int.reduceToNat, hx']
  refine effD_tail (by kernel_rfl) ?_
  simp -implicitDefEqProofs (disch := first | omega | (simp only [St.set_n, St.up_n, List.length_cons, List.length_nil]; omega)) only [go_sem, Nat.reduceAdd, Nat.reduceMul, Nat.reduceSub, Int.reduceAdd, Int.reduceMul, Int.reduceSub, Int.reduceNeg, Int.reduceToNat]
  by_cases h : x = old
  · subst h
    simp -implicitDefEqProofs (disch := first | omega | (simp only [St.set_n, St.up_n, List.length_cons, List.length_nil]; omega)) only [go_sem, Nat.reduceAdd, Nat.reduceMul, Nat.reduceSub, Int.reduceAdd, Int.reduceMul, Int.reduceSub, Int.reduceNeg, Int.reduceToNat, hx']
    refine ⟨_, To.obj (b := b) (by simp -implicitDefEqProofs (disch := first | omega | (simp only [St.set_n, St.up_n, List.length_cons, List.length_nil]; omega)) only [go_sem, Nat.reduceAdd, Nat.reduceMul, Nat.reduceSub, Int.reduceAdd, Int.reduceMul, Int.reduceSub, Int.reduceNeg, Int.reduceToNat] <;> rfl) (fun d y h1 h2 h3 => by simp -implicitDefEqProofs (disch := first | omega | (simp only [St.set_n, St.up_n, List.length_cons, List.length_nil]; omega)) only [go_sem, Nat.reduceAdd, Nat.reduceMul, Nat.reduceSub, Int.reduceAdd, Int.reduceMul, Int.reduceSub, Int.reduceNeg, Int.reduceToNat, h3]) hwf, ?_⟩
    simp only [if_true, decide_true] at hK
    exact hK _ (by simp only [St.up_n, St.set_n]; omega)
  · simp -implicitDefEqProofs (disch := first | omega | (simp only [St.set_n, St.up_n, List.length_cons, List.length_nil]; omega)) only [go_sem, Nat.reduceAdd, Nat.reduceMul, Nat.reduceSub, Int.reduceAdd, Int.reduceMul, Int.reduceSub, Int.reduceNeg, Int.reduceToNat, h]
    refine ⟨_, To.obj (b := b) (by simp -implicitDefEqProofs (disch := first | omega | (simp only [St.set_n, St.up_n, List.length_cons, List.length_nil]; omega)) only [go_sem, Nat.reduceAdd, Nat.reduceMul, Nat.reduceSub, Int.reduceAdd, Int.reduceMul, Int.reduceSub, Int.reduceNeg, Int.reduceToNat] <;> rfl) (fun d y h1 h2 h3 => by simp -implicitDefEqProofs (disch := first | omega | (simp only [St.set_n, St.up_n, List.length_cons, List.length_nil]; omega)) only [go_sem, Nat.reduceAdd, Nat.reduceMul, Nat.reduceSub, Int.reduceAdd, Int.reduceMul, Int.reduceSub, Int.reduceNeg, Int.reduceToNat, h3]) hwf, ?_⟩
    simp only [h, if_false, decide_false] at hK
    exact hK _ (by simp only [St.up_n, St.set_n]; omega)
theorem casS_none {old new : ByteArray} (hK : ∀ k, σ.n ≤ k → K (.bool false) (σ.up k)) : Fn Try.prog B 24 #[.pointer none, .string old, .string new] σ K := by
  refine Fn.of' is24 (by simp) fun hwf => ?_
  simp only [b24, Try.f24, Option.getD_some]
  simp -implicitDefEqProofs (disch := first | omega | (simp only [St.set_n, St.up_n, List.length_cons, List.length_nil]; omega)) only [go_sem, Nat.reduceAdd, Nat.reduceMul, Nat.reduceSub, Int.reduceAdd, Int.reduceMul, Int.reduceSub, Int.reduceNeg, Int.reduceToNat]
  refine callF_of (accessS_none ?_)
  simp -implicitDefEqProofs (disch := first | omega | (simp only [St.set_n, St.up_n, List.length_cons, List.length_nil]; omega)) only [go_sem, Nat.reduceAdd, Nat.reduceMul, Nat.reduceSub, Int.reduceAdd, Int.reduceMul, Int.reduceSub, Int.reduceNeg, Int.reduceToNat]
  refine ⟨_, To.same (fun d y h2 h3 => by simp -implicitDefEqProofs (disch := first | omega | (simp only [St.set_n, St.up_n, List.length_cons, List.length_nil]; omega)) only [go_sem, Nat.reduceAdd, Nat.reduceMul, Nat.reduceSub, Int.reduceAdd, Int.reduceMul, Int.reduceSub, Int.reduceNeg, Int.reduceToNat, h3]) hwf, ?_⟩
  exact hK _ (by simp only [St.up_n, St.set_n]; omega)
theorem store {x y : Int} (hm : σ.m b = some (.raw (.cells c ty (0, 0)))) (hx : c[o]? = some (.int .i64 x)) (hn : c[o + 1]? = some (.int .i64 n))
    (hK : ∀ k, σ.n ≤ k → K (.tuple #[]) (leftAs σ b ((c.setIfInBounds (o + 1) (.int .i64 (IntKind.i64.wrap (n + 1)))).setIfInBounds o (.int .i64 y)) ty k)) :
    Fn Try.prog B 74 #[.pointer (some ⟨b, o, none⟩), .int .i64 y] σ K := by
  have hlt : o + 1 < c.size := (Array.getElem?_eq_some_iff.1 hn).1
  have hx' : (c.setIfInBounds (o + 1) (.int .i64 (IntKind.i64.wrap (n + 1))))[o]? = some (.int .i64 x) := by rw [Array.getElem?_setIfInBounds_ne (by omega)]; exact hx
  refine Fn.of' is74 (by simp) fun hwf => ?_
  have hb := (hwf.2 b _ hm).2
  simp only [b74, Try.f74, Option.getD_some]
  simp -implicitDefEqProofs (disch := first | omega | (simp only [St.set_n, St.up_n, List.length_cons, List.length_nil]; omega)) only [go_sem, Nat.reduceAdd, Nat.reduceMul, Nat.reduceSub, Int.reduceAdd, Int.reduceMul, Int.reduceSub, Int.reduceNeg, Int.reduceToNat, hm]
  refine callF_of (accessI (c := c) (ty := ty) (n := n) (by simp -implicitDefEqProofs (disch := first | omega | (simp only [St.set_n, St.up_n, List.length_cons, List.length_nil]; omega)) only [go_sem, Nat.reduceAdd, Nat.reduceMul, Nat.reduceSub, Int.reduceAdd, Int.reduceMul, Int.reduceSub, Int.reduceNeg, Int.reduceToNat, hm]) hn ?_)
  simp -implicitDefEqProofs (disch := first | omega | (simp only [St.set_n, St.up_n, List.length_cons, List.length_nil]; omega)) only [go_sem, Nat.reduceAdd, Nat.reduceMul, Nat.reduceSub, Int.reduceAdd, Int.reduceMul, Int.reduceSub, Int.reduceNeg, Int.reduceToNat]
  refine Fn.of is87 (by simp) fun hwf' => ?_
  simp only [b87, Try.f87, Option.getD_some]
  simp -implicitDefEqProofs (disch := first | omega | (simp only [St.set_n, St.up_n, List.length_cons, List.length_nil]; omega)) only [go_sem, Nat.reduceAdd, Nat.reduceMul, Nat.reduceSub, Int.reduceAdd, Int.reduceMul, Int.reduceSub, Int.reduceNeg, Int.reduceToNat, hx']
  refine ⟨_, To.obj (b := b) (by simp -implicitDefEqProofs (disch := first | omega | (simp only [St.set_n, St.up_n, List.length_cons, List.length_nil]; omega)) only [go_sem, Nat.reduceAdd, Nat.reduceMul, Nat.reduceSub, Int.reduceAdd, Int.reduceMul, Int.reduceSub, Int.reduceNeg, Int.reduceToNat] <;> rfl) (fun d y h1 h2 h3 => by simp -implicitDefEqProofs (disch := first | omega | (simp only [St.set_n, St.up_n, List.length_cons, List.length_nil]; omega)) only [go_sem, Nat.reduceAdd, Nat.reduceMul, Nat.reduceSub, Int.reduceAdd, Int.reduceMul, Int.reduceSub, Int.reduceNeg, Int.reduceToNat, h3]) hwf, ?_⟩
  exact hK _ (by simp only [St.up_n, St.set_n]; omega)
theorem store_none {y : Int} (hK : ∀ k, σ.n ≤ k → K (.tuple #[]) (σ.up k)) : Fn Try.prog B 74 #[.pointer none, .int .i64 y] σ K := by
  refine Fn.of' is74 (by simp) fun hwf => ?_
  simp only [b74, Try.f74, Option.getD_some]
  simp -implicitDefEqProofs (disch := first | omega | (simp only [St.set_n, St.up_n, List.length_cons, List.length_nil]; omega)) only [go_sem, Nat.reduceAdd, Nat.reduceMul, Nat.reduceSub, Int.reduceAdd, Int.reduceMul, Int.reduceSub, Int.reduceNeg, Int.reduceToNat]
  refine callF_of (accessI_none ?_)
  simp -implicitDefEqProofs (disch := first | omega | (simp only [St.set_n, St.up_n, List.length_cons, List.length_nil]; omega)) only [go_sem, Nat.reduceAdd, Nat.reduceMul, Nat.reduceSub, Int.reduceAdd, Int.reduceMul, Int.reduceSub, Int.reduceNeg, Int.reduceToNat]
  refine ⟨_, To.same (fun d y h2 h3 => by simp -implicitDefEqProofs (disch := first | omega | (simp only [St.set_n, St.up_n, List.length_cons, List.length_nil]; omega)) only [go_sem, Nat.reduceAdd, Nat.reduceMul, Nat.reduceSub, Int.reduceAdd, Int.reduceMul, Int.reduceSub, Int.reduceNeg, Int.reduceToNat, h3]) hwf, ?_⟩
  exact hK _ (by simp only [St.up_n, St.set_n]; omega)
end
end Go.Proofs.Ytbjgoajdfdonfaa
