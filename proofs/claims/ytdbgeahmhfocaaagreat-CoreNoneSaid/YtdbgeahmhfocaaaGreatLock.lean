/- What a lock's functions come to: contracts, by walks. -/
import Derived.Test.YtdbgeahmhfocaaaGreatCell
import Derived.Test.YtdbgeahmhfocaaaGreatEngR
namespace Go.Proofs.YtdbgeahmhfocaaaGreat
set_option linter.unusedSimpArgs false
set_option linter.unusedVariables false
open Go Go.RowKit
section
variable {B : World} {σ : St} {K : Value → St → Prop} {b o : Nat} {c : Array Value} {ty : TypeId} {x n k u : Int}

theorem lock_owner (hm : σ.m b = some (.raw (.cells c ty (0, 0)))) (hx : c[o]? = some (.int .i64 x)) (hK : K (.int .i64 x) σ) : Fn Tryz.prog B 52 #[.pointer (some ⟨b, o, none⟩)] σ K := by
  refine Fn.of is52 (by simp) fun hwf => ?_
  simp only [b52, Tryz.f52, Option.getD_some]
  simp -implicitDefEqProofs (disch := first | omega | (simp only [St.set_n, St.up_n, List.length_cons, List.length_nil]; omega)) only [go_sem, Nat.reduceAdd, Nat.reduceMul, Nat.reduceSub, Int.reduceAdd, Int.reduceMul, Int.reduceSub, Int.reduceNeg, Int.reduceToNat]
  refine callF_of (peekI hm hx ?_)
  simp -implicitDefEqProofs (disch := first | omega | (simp only [St.set_n, St.up_n, List.length_cons, List.length_nil]; omega)) only [go_sem, Nat.reduceAdd, Nat.reduceMul, Nat.reduceSub, Int.reduceAdd, Int.reduceMul, Int.reduceSub, Int.reduceNeg, Int.reduceToNat]
  exact hK
theorem lock_owner_none (hK : K (.int .i64 0) σ) : Fn Tryz.prog B 52 #[.pointer none] σ K := by
  refine Fn.of is52 (by simp) fun hwf => ?_
  simp only [b52, Tryz.f52, Option.getD_some]
  simp -implicitDefEqProofs (disch := first | omega | (simp only [St.set_n, St.up_n, List.length_cons, List.length_nil]; omega)) only [go_sem, Nat.reduceAdd, Nat.reduceMul, Nat.reduceSub, Int.reduceAdd, Int.reduceMul, Int.reduceSub, Int.reduceNeg, Int.reduceToNat]
  exact hK
theorem lock_try_none (hK : K (.bool false) σ) : Fn Tryz.prog B 115 #[.pointer none, .int .i64 u] σ K := by
  refine Fn.of is115 (by simp) fun hwf => ?_
  simp only [b115, Tryz.f115, Option.getD_some]
  simp -implicitDefEqProofs (disch := first | omega | (simp only [St.set_n, St.up_n, List.length_cons, List.length_nil]; omega)) only [go_sem, Nat.reduceAdd, Nat.reduceMul, Nat.reduceSub, Int.reduceAdd, Int.reduceMul, Int.reduceSub, Int.reduceNeg, Int.reduceToNat]
  exact hK
theorem lock_free_none (hK : K (.int .i64 9) σ) : Fn Tryz.prog B 100 #[.pointer none, .int .i64 u] σ K := by
  refine Fn.of is100 (by simp) fun hwf => ?_
  simp only [b100, Tryz.f100, Option.getD_some]
  simp -implicitDefEqProofs (disch := first | omega | (simp only [St.set_n, St.up_n, List.length_cons, List.length_nil]; omega)) only [go_sem, Nat.reduceAdd, Nat.reduceMul, Nat.reduceSub, Int.reduceAdd, Int.reduceMul, Int.reduceSub, Int.reduceNeg, Int.reduceToNat]
  exact hK

/-- A lock's three cells behind a try to hold it, and behind a try to free it. -/
def tryC (c : Array Value) (o : Nat) (x n k u : Int) : Array Value :=
  if u < 1 then c else if x = 0 then ((c.setIfInBounds (o + 1) (.int .i64 (IntKind.i64.wrap (n + 1)))).setIfInBounds o (.int .i64 u)).setIfInBounds (o + 2) (.int .i64 (IntKind.i64.wrap (k + 1)))
  else c.setIfInBounds (o + 1) (.int .i64 (IntKind.i64.wrap (n + 1)))
def tryB (x u : Int) : Bool := if u < 1 then false else decide (x = 0)
def freeC (c : Array Value) (o : Nat) (x n u : Int) : Array Value :=
  if u < 1 then c else if x = u then (c.setIfInBounds (o + 1) (.int .i64 (IntKind.i64.wrap (n + 1)))).setIfInBounds o (.int .i64 0)
  else c.setIfInBounds (o + 1) (.int .i64 (IntKind.i64.wrap (n + 1)))
def freeE (x u : Int) : Int := if u < 1 then 9 else if x = u then 0 else 9

theorem set_raw_same (hm : σ.m b = some (.raw (.cells c ty (0, 0)))) : σ.set b (.raw (.cells c ty (0, 0))) = σ := by
  simp only [St.set]
  cases σ
  simp only [St.mk.injEq, and_true]
  funext y
  split
  · rename_i e; subst e; exact hm.symm
  · rfl
theorem leftAs_same (hm : σ.m b = some (.raw (.cells c ty (0, 0)))) : leftAs σ b c ty σ.n = σ := by
  simp only [leftAs, set_raw_same hm, St.up_self]

theorem lock_try (hm : σ.m b = some (.raw (.cells c ty (0, 0)))) (hx : c[o]? = some (.int .i64 x)) (hn : c[o + 1]? = some (.int .i64 n)) (hk : c[o + 2]? = some (.int .i64 k))
    (hK : ∀ j, σ.n ≤ j → K (.bool (tryB x u)) (leftAs σ b (tryC c o x n k u) ty j)) : Fn Tryz.prog B 115 #[.pointer (some ⟨b, o, none⟩), .int .i64 u] σ K := by
  have hlt : o + 2 < c.size := (Array.getElem?_eq_some_iff.1 hk).1
  refine Fn.of is115 (by simp) fun hwf => ?_
  simp only [b115, Tryz.f115, Option.getD_some]
  simp -implicitDefEqProofs (disch := first | omega | (simp only [St.set_n, St.up_n, List.length_cons, List.length_nil]; omega)) only [go_sem, Nat.reduceAdd, Nat.reduceMul, Nat.reduceSub, Int.reduceAdd, Int.reduceMul, Int.reduceSub, Int.reduceNeg, Int.reduceToNat]
  by_cases h1 : u < 1
  · simp -implicitDefEqProofs (disch := first | omega | (simp only [St.set_n, St.up_n, List.length_cons, List.length_nil]; omega)) only [go_sem, Nat.reduceAdd, Nat.reduceMul, Nat.reduceSub, Int.reduceAdd, Int.reduceMul, Int.reduceSub, Int.reduceNeg, Int.reduceToNat, h1]
    have := hK σ.n (Nat.le_refl _)
    simpa only [tryB, tryC, h1, if_true, leftAs_same hm] using this
  simp -implicitDefEqProofs (disch := first | omega | (simp only [St.set_n, St.up_n, List.length_cons, List.length_nil]; omega)) only [go_sem, Nat.reduceAdd, Nat.reduceMul, Nat.reduceSub, Int.reduceAdd, Int.reduceMul, Int.reduceSub, Int.reduceNeg, Int.reduceToNat, h1]
  refine callF_of (casI hm hx hn fun j hj => ?_)
  unfold leftAs
  simp -implicitDefEqProofs (disch := first | omega | (simp only [St.set_n, St.up_n, List.length_cons, List.length_nil]; omega)) only [go_sem, Nat.reduceAdd, Nat.reduceMul, Nat.reduceSub, Int.reduceAdd, Int.reduceMul, Int.reduceSub, Int.reduceNeg, Int.reduceToNat]
  simp only [tryB, tryC, h1, if_false] at hK
  by_cases h0 : x = 0
  · have h2 : ((c.setIfInBounds (o + 1) (.int .i64 (IntKind.i64.wrap (n + 1)))).setIfInBounds o (.int .i64 u))[o + 2]? = some (.int .i64 k) := by
      rw [Array.getElem?_setIfInBounds_ne (by omega), Array.getElem?_setIfInBounds_ne (by omega)]; exact hk
    simp -implicitDefEqProofs (disch := first | omega | (simp only [St.set_n, St.up_n, List.length_cons, List.length_nil]; omega)) only [go_sem, Nat.reduceAdd, Nat.reduceMul, Nat.reduceSub, Int.reduceAdd, Int.reduceMul, Int.reduceSub, Int.reduceNeg, Int.reduceToNat, h0, h2]
    simp only [h0, if_true, decide_true] at hK
    exact hK j hj
  · simp -implicitDefEqProofs (disch := first | omega | (simp only [St.set_n, St.up_n, List.length_cons, List.length_nil]; omega)) only [go_sem, Nat.reduceAdd, Nat.reduceMul, Nat.reduceSub, Int.reduceAdd, Int.reduceMul, Int.reduceSub, Int.reduceNeg, Int.reduceToNat, h0]
    simp only [h0, if_false, decide_false] at hK
    exact hK j hj
theorem lock_free (hm : σ.m b = some (.raw (.cells c ty (0, 0)))) (hx : c[o]? = some (.int .i64 x)) (hn : c[o + 1]? = some (.int .i64 n))
    (hK : ∀ j, σ.n ≤ j → K (.int .i64 (freeE x u)) (leftAs σ b (freeC c o x n u) ty j)) : Fn Tryz.prog B 100 #[.pointer (some ⟨b, o, none⟩), .int .i64 u] σ K := by
  have hlt : o + 1 < c.size := (Array.getElem?_eq_some_iff.1 hn).1
  refine Fn.of is100 (by simp) fun hwf => ?_
  simp only [b100, Tryz.f100, Option.getD_some]
  simp -implicitDefEqProofs (disch := first | omega | (simp only [St.set_n, St.up_n, List.length_cons, List.length_nil]; omega)) only [go_sem, Nat.reduceAdd, Nat.reduceMul, Nat.reduceSub, Int.reduceAdd, Int.reduceMul, Int.reduceSub, Int.reduceNeg, Int.reduceToNat]
  by_cases h1 : u < 1
  · simp -implicitDefEqProofs (disch := first | omega | (simp only [St.set_n, St.up_n, List.length_cons, List.length_nil]; omega)) only [go_sem, Nat.reduceAdd, Nat.reduceMul, Nat.reduceSub, Int.reduceAdd, Int.reduceMul, Int.reduceSub, Int.reduceNeg, Int.reduceToNat, h1]
    have := hK σ.n (Nat.le_refl _)
    simpa only [freeE, freeC, h1, if_true, leftAs_same hm] using this
  simp -implicitDefEqProofs (disch := first | omega | (simp only [St.set_n, St.up_n, List.length_cons, List.length_nil]; omega)) only [go_sem, Nat.reduceAdd, Nat.reduceMul, Nat.reduceSub, Int.reduceAdd, Int.reduceMul, Int.reduceSub, Int.reduceNeg, Int.reduceToNat, h1]
  refine callF_of (casI hm hx hn fun j hj => ?_)
  unfold leftAs
  simp -implicitDefEqProofs (disch := first | omega | (simp only [St.set_n, St.up_n, List.length_cons, List.length_nil]; omega)) only [go_sem, Nat.reduceAdd, Nat.reduceMul, Nat.reduceSub, Int.reduceAdd, Int.reduceMul, Int.reduceSub, Int.reduceNeg, Int.reduceToNat]
  simp only [freeE, freeC, h1, if_false] at hK
  by_cases h0 : x = u
  · simp -implicitDefEqProofs (disch := first | omega | (simp only [St.set_n, St.up_n, List.length_cons, List.length_nil]; omega)) only [go_sem, Nat.reduceAdd, Nat.reduceMul, Nat.reduceSub, Int.reduceAdd, Int.reduceMul, Int.reduceSub, Int.reduceNeg, Int.reduceToNat, h0]
    simp only [h0, if_true] at hK
    exact hK j hj
  · simp -implicitDefEqProofs (disch := first | omega | (simp only [St.set_n, St.up_n, List.length_cons, List.length_nil]; omega)) only [go_sem, Nat.reduceAdd, Nat.reduceMul, Nat.reduceSub, Int.reduceAdd, Int.reduceMul, Int.reduceSub, Int.reduceNeg, Int.reduceToNat, h0]
    simp only [h0, if_false] at hK
    exact hK j hj

/-! ### Of no group there is nothing -/
theorem at_none {i : Int} (hK : K (.pointer none) σ) : Fn Tryz.prog B 51 #[.pointer none, .int .i64 i] σ K := by
  refine Fn.of is51 (by simp) fun hwf => ?_
  simp only [b51, Tryz.f51, Option.getD_some]
  simp -implicitDefEqProofs (disch := first | omega | (simp only [St.set_n, St.up_n, List.length_cons, List.length_nil]; omega)) only [go_sem, Nat.reduceAdd, Nat.reduceMul, Nat.reduceSub, Int.reduceAdd, Int.reduceMul, Int.reduceSub, Int.reduceNeg, Int.reduceToNat]
  exact hK
theorem len_none (hK : K (.int .i64 0) σ) : Fn Tryz.prog B 50 #[.pointer none] σ K := by
  refine Fn.of is50 (by simp) fun hwf => ?_
  simp only [b50, Tryz.f50, Option.getD_some]
  simp -implicitDefEqProofs (disch := first | omega | (simp only [St.set_n, St.up_n, List.length_cons, List.length_nil]; omega)) only [go_sem, Nat.reduceAdd, Nat.reduceMul, Nat.reduceSub, Int.reduceAdd, Int.reduceMul, Int.reduceSub, Int.reduceNeg, Int.reduceToNat]
  exact hK
end
end Go.Proofs.YtdbgeahmhfocaaaGreat
