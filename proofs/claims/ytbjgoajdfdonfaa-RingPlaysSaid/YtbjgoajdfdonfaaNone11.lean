/- 'RingNone': the walk. -/
import Derived.Test.YtbjgoajdfdonfaaRounds
namespace Go.Proofs.Ytbjgoajdfdonfaa
set_option linter.unusedSimpArgs false
set_option linter.unusedVariables false
set_option maxRecDepth 100000
open Go Go.RowKit
section
variable {B : World} {σ : St} {K : Value → St → Prop}

theorem ring_get_none (hK : K (.tuple #[.int .i64 0, .bool false]) σ) : Fn Try.prog B 41 #[.pointer none] σ K := by
  refine Fn.of is41 (by simp) fun hwf => ?_
  simp only [b41, Try.f41, Option.getD_some]
  simp -implicitDefEqProofs (disch := first | omega | (simp only [St.set_n, St.up_n, List.length_cons, List.length_nil]; omega)) only [go_sem, Nat.reduceAdd, Nat.reduceMul, Nat.reduceSub, Int.reduceAdd, Int.reduceMul, Int.reduceSub, Int.reduceNeg, Int.reduceToNat]
  exact hK
theorem ring_put_none {x : Int} (hK : K (.bool false) σ) : Fn Try.prog B 39 #[.pointer none, .int .i64 x] σ K := by
  refine Fn.of is39 (by simp) fun hwf => ?_
  simp only [b39, Try.f39, Option.getD_some]
  simp -implicitDefEqProofs (disch := first | omega | (simp only [St.set_n, St.up_n, List.length_cons, List.length_nil]; omega)) only [go_sem, Nat.reduceAdd, Nat.reduceMul, Nat.reduceSub, Int.reduceAdd, Int.reduceMul, Int.reduceSub, Int.reduceNeg, Int.reduceToNat]
  exact hK
theorem ring_len_none (hK : K (.int .i64 0) σ) : Fn Try.prog B 40 #[.pointer none] σ K := by
  refine Fn.of is40 (by simp) fun hwf => ?_
  simp only [b40, Try.f40, Option.getD_some]
  simp -implicitDefEqProofs (disch := first | omega | (simp only [St.set_n, St.up_n, List.length_cons, List.length_nil]; omega)) only [go_sem, Nat.reduceAdd, Nat.reduceMul, Nat.reduceSub, Int.reduceAdd, Int.reduceMul, Int.reduceSub, Int.reduceNeg, Int.reduceToNat]
  exact hK
theorem ring_cap_none (hK : K (.int .i64 0) σ) : Fn Try.prog B 38 #[.pointer none] σ K := by
  refine Fn.of is38 (by simp) fun hwf => ?_
  simp only [b38, Try.f38, Option.getD_some]
  simp -implicitDefEqProofs (disch := first | omega | (simp only [St.set_n, St.up_n, List.length_cons, List.length_nil]; omega)) only [go_sem, Nat.reduceAdd, Nat.reduceMul, Nat.reduceSub, Int.reduceAdd, Int.reduceMul, Int.reduceSub, Int.reduceNeg, Int.reduceToNat]
  exact hK
theorem ring_drops_none (hK : K (.int .i64 0) σ) : Fn Try.prog B 60 #[.pointer none] σ K := by
  refine Fn.of is60 (by simp) fun hwf => ?_
  simp only [b60, Try.f60, Option.getD_some]
  simp -implicitDefEqProofs (disch := first | omega | (simp only [St.set_n, St.up_n, List.length_cons, List.length_nil]; omega)) only [go_sem, Nat.reduceAdd, Nat.reduceMul, Nat.reduceSub, Int.reduceAdd, Int.reduceMul, Int.reduceSub, Int.reduceNeg, Int.reduceToNat]
  exact hK
theorem ring_seq_none {x : Int} (hK : K (.int .i64 (-1)) σ) : Fn Try.prog B 70 #[.pointer none, .int .i64 x] σ K := by
  refine Fn.of is70 (by simp) fun hwf => ?_
  simp only [b70, Try.f70, Option.getD_some]
  simp -implicitDefEqProofs (disch := first | omega | (simp only [St.set_n, St.up_n, List.length_cons, List.length_nil]; omega)) only [go_sem, Nat.reduceAdd, Nat.reduceMul, Nat.reduceSub, Int.reduceAdd, Int.reduceMul, Int.reduceSub, Int.reduceNeg, Int.reduceToNat]
  exact hK
theorem ring_all {p : Value} (hK : K (.func (.func 89) #[] #[.pointer (some ⟨σ.n, 0, none⟩)]) ((σ.set σ.n (.raw (.cells (vc p) 62 (0, 0)))).up (σ.n + 1))) : Fn Try.prog B 83 #[p] σ K := by
  refine Fn.of is83 (by simp) fun hwf => ?_
  simp only [b83, Try.f83, Option.getD_some]
  simp -implicitDefEqProofs (disch := first | omega | (simp only [St.set_n, St.up_n, List.length_cons, List.length_nil]; omega)) only [go_sem, Nat.reduceAdd, Nat.reduceMul, Nat.reduceSub, Int.reduceAdd, Int.reduceMul, Int.reduceSub, Int.reduceNeg, Int.reduceToNat]
  exact hK
/-- What is told of a ring that is not there: nothing. -/
theorem ring_all_none {b : Nat} {g : Value} (hm : σ.m b = some (.raw (.cells #[.pointer none] 62 (0, 0)))) (hK : K (.tuple #[]) σ) : Fn Try.prog B 89 #[g, .pointer (some ⟨b, 0, none⟩)] σ K := by
  refine Fn.of is89 (by simp) fun hwf => ?_
  simp only [b89, Try.f89, Option.getD_some]
  simp -implicitDefEqProofs (disch := first | omega | (simp only [St.set_n, St.up_n, List.length_cons, List.length_nil]; omega)) only [go_sem, Nat.reduceAdd, Nat.reduceMul, Nat.reduceSub, Int.reduceAdd, Int.reduceMul, Int.reduceSub, Int.reduceNeg, Int.reduceToNat, hm]
  exact hK
theorem range_rule {P : Program} {n : Nat} {g : Operand} {ps : Array Tmp} {x y : Code} {Q : Exit → Fr → St → Prop} {e : Fr} {f : FuncId} {first cap : Array Value} (hg : ev e g = .func (.func f) first cap)
    (h : ∀ (fn : FuncId) (tm : Array Value), tm.size = n → (∀ t, tm.getD t undef = e.v t) →
      Fn P B f (first ++ #[.func (.yield (σ.n + 1)) #[] #[]] ++ cap) (((σ.set σ.n (.raw (.deferred (some [])))).set (σ.n + 1) (.raw (.loop (recR fn tm ps x y σ.n)))).up (σ.n + 1 + 1)) fun _ σ' =>
        ∃ rec, σ'.m (σ.n + 1) = some (.raw (.loop rec)) ∧ rec.state ≠ .busy ∧
          pendQ Q rec.pending { e with d := { target := .collected σ.n, args := #[] } :: e.d } (σ'.set (σ.n + 1) (.raw (.loop { rec with state := .exhausted })))) : RangeS P B none n g ps x y Q e σ := by
  intro fn tm h1 h2
  rw [hg]
  exact h fn tm h1 h2
theorem leave_collected {P : Program} {r : Nat} {args : Array Value} {ds : List Deferred} {K : St → Prop} (hm : σ.m r = some (.raw (.deferred (some [])))) (h : Leave P B ds (σ.set r (.raw (.deferred none))) K) :
    Leave P B ({ target := .collected r, args := args } :: ds) σ K := ⟨hm, h⟩
theorem list_none (hK : ∀ τ, σ.n ≤ τ.n → (∀ c x, c < σ.n → σ.m c = some x → τ.m c = some x) → K (.slice none 0 0) τ) : Fn Try.prog B 58 #[.pointer none] σ K := by
  refine Fn.of is58 (by simp) fun hwf => ?_
  simp only [b58, Try.f58, Option.getD_some]
  simp -implicitDefEqProofs (disch := first | omega | (simp only [St.set_n, St.up_n, List.length_cons, List.length_nil]; omega)) only [go_sem, Nat.reduceAdd, Nat.reduceMul, Nat.reduceSub, Int.reduceAdd, Int.reduceMul, Int.reduceSub, Int.reduceNeg, Int.reduceToNat]
  refine callF_of (ring_all ?_)
  simp -implicitDefEqProofs (disch := first | omega | (simp only [St.set_n, St.up_n, List.length_cons, List.length_nil]; omega)) only [go_sem, Nat.reduceAdd, Nat.reduceMul, Nat.reduceSub, Int.reduceAdd, Int.reduceMul, Int.reduceSub, Int.reduceNeg, Int.reduceToNat]
  refine range_rule (f := 89) (first := #[]) (cap := #[.pointer (some ⟨σ.n + 1 + 1, 0, none⟩)]) (by simp -implicitDefEqProofs (disch := first | omega | (simp only [St.set_n, St.up_n, List.length_cons, List.length_nil]; omega)) only [go_sem, Nat.reduceAdd, Nat.reduceMul, Nat.reduceSub, Int.reduceAdd, Int.reduceMul, Int.reduceSub, Int.reduceNeg, Int.reduceToNat]) fun fn tm htm hv => ?_
  simp -implicitDefEqProofs (disch := first | omega | (simp only [St.set_n, St.up_n, List.length_cons, List.length_nil]; omega)) only [go_sem, Nat.reduceAdd, Nat.reduceMul, Nat.reduceSub, Int.reduceAdd, Int.reduceMul, Int.reduceSub, Int.reduceNeg, Int.reduceToNat]
  refine ring_all_none (by simp -implicitDefEqProofs (disch := first | omega | (simp only [St.set_n, St.up_n, List.length_cons, List.length_nil]; omega)) only [go_sem, Nat.reduceAdd, Nat.reduceMul, Nat.reduceSub, Int.reduceAdd, Int.reduceMul, Int.reduceSub, Int.reduceNeg, Int.reduceToNat]) ?_
  refine ⟨recR fn tm _ _ _ _, by simp -implicitDefEqProofs (disch := first | omega | (simp only [St.set_n, St.up_n, List.length_cons, List.length_nil]; omega)) only [go_sem, Nat.reduceAdd, Nat.reduceMul, Nat.reduceSub, Int.reduceAdd, Int.reduceMul, Int.reduceSub, Int.reduceNeg, Int.reduceToNat] <;> rfl, fun h => (by cases h), ?_⟩
  show pendQ _ none _ _
  unfold pendQ
  simp -implicitDefEqProofs (disch := first | omega | (simp only [St.set_n, St.up_n, List.length_cons, List.length_nil]; omega)) only [go_sem, Nat.reduceAdd, Nat.reduceMul, Nat.reduceSub, Int.reduceAdd, Int.reduceMul, Int.reduceSub, Int.reduceNeg, Int.reduceToNat]
  refine leave_collected (by simp -implicitDefEqProofs (disch := first | omega | (simp only [St.set_n, St.up_n, List.length_cons, List.length_nil]; omega)) only [go_sem, Nat.reduceAdd, Nat.reduceMul, Nat.reduceSub, Int.reduceAdd, Int.reduceMul, Int.reduceSub, Int.reduceNeg, Int.reduceToNat]) ?_
  simp -implicitDefEqProofs (disch := first | omega | (simp only [St.set_n, St.up_n, List.length_cons, List.length_nil]; omega)) only [go_sem, Nat.reduceAdd, Nat.reduceMul, Nat.reduceSub, Int.reduceAdd, Int.reduceMul, Int.reduceSub, Int.reduceNeg, Int.reduceToNat]
  exact hK _ (by simp only [St.up_n]; omega) (fun c x hc hx => by simp -implicitDefEqProofs (disch := first | omega | (simp only [St.set_n, St.up_n, List.length_cons, List.length_nil]; omega)) only [go_sem, Nat.reduceAdd, Nat.reduceMul, Nat.reduceSub, Int.reduceAdd, Int.reduceMul, Int.reduceSub, Int.reduceNeg, Int.reduceToNat, hx])
theorem none11 {x : Int} (hK : ∀ k, σ.n ≤ k → K (.bool true) (σ.up k)) : Fn Try.prog B 14 #[.int .i64 x] σ K := by
  refine Fn.of' is14 (by simp) fun hwf => ?_
  simp only [b14, Try.f14, Option.getD_some]
  simp -implicitDefEqProofs (disch := first | omega | (simp only [St.set_n, St.up_n, List.length_cons, List.length_nil]; omega)) only [go_sem, Nat.reduceAdd, Nat.reduceMul, Nat.reduceSub, Int.reduceAdd, Int.reduceMul, Int.reduceSub, Int.reduceNeg, Int.reduceToNat]
  refine callF_of (awake11 fun k hk => ?_)
  simp -implicitDefEqProofs (disch := first | omega | (simp only [St.set_n, St.up_n, List.length_cons, List.length_nil]; omega)) only [go_sem, Nat.reduceAdd, Nat.reduceMul, Nat.reduceSub, Int.reduceAdd, Int.reduceMul, Int.reduceSub, Int.reduceNeg, Int.reduceToNat]
  refine callF_of (ring_get_none ?_)
  simp -implicitDefEqProofs (disch := first | omega | (simp only [St.set_n, St.up_n, List.length_cons, List.length_nil]; omega)) only [go_sem, Nat.reduceAdd, Nat.reduceMul, Nat.reduceSub, Int.reduceAdd, Int.reduceMul, Int.reduceSub, Int.reduceNeg, Int.reduceToNat]
  refine callF_of (ring_put_none ?_)
  simp -implicitDefEqProofs (disch := first | omega | (simp only [St.set_n, St.up_n, List.length_cons, List.length_nil]; omega)) only [go_sem, Nat.reduceAdd, Nat.reduceMul, Nat.reduceSub, Int.reduceAdd, Int.reduceMul, Int.reduceSub, Int.reduceNeg, Int.reduceToNat]
  refine callF_of (ring_len_none ?_)
  simp -implicitDefEqProofs (disch := first | omega | (simp only [St.set_n, St.up_n, List.length_cons, List.length_nil]; omega)) only [go_sem, Nat.reduceAdd, Nat.reduceMul, Nat.reduceSub, Int.reduceAdd, Int.reduceMul, Int.reduceSub, Int.reduceNeg, Int.reduceToNat]
  refine callF_of (ring_cap_none ?_)
  simp -implicitDefEqProofs (disch := first | omega | (simp only [St.set_n, St.up_n, List.length_cons, List.length_nil]; omega)) only [go_sem, Nat.reduceAdd, Nat.reduceMul, Nat.reduceSub, Int.reduceAdd, Int.reduceMul, Int.reduceSub, Int.reduceNeg, Int.reduceToNat]
  refine callF_of (ring_drops_none ?_)
  simp -implicitDefEqProofs (disch := first | omega | (simp only [St.set_n, St.up_n, List.length_cons, List.length_nil]; omega)) only [go_sem, Nat.reduceAdd, Nat.reduceMul, Nat.reduceSub, Int.reduceAdd, Int.reduceMul, Int.reduceSub, Int.reduceNeg, Int.reduceToNat]
  refine callF_of (ring_seq_none ?_)
  simp -implicitDefEqProofs (disch := first | omega | (simp only [St.set_n, St.up_n, List.length_cons, List.length_nil]; omega)) only [go_sem, Nat.reduceAdd, Nat.reduceMul, Nat.reduceSub, Int.reduceAdd, Int.reduceMul, Int.reduceSub, Int.reduceNeg, Int.reduceToNat]
  refine callF_of (list_none fun τ hn hσ => ?_)
  simp -implicitDefEqProofs (disch := first | omega | (simp only [St.set_n, St.up_n, List.length_cons, List.length_nil]; omega)) only [go_sem, Nat.reduceAdd, Nat.reduceMul, Nat.reduceSub, Int.reduceAdd, Int.reduceMul, Int.reduceSub, Int.reduceNeg, Int.reduceToNat]
  refine ⟨_, To.same (fun d y h2 h3 => ?_) hwf, ?_⟩
  · exact hσ d y (by simp only [St.up_n]; omega) h3
  · exact hK _ (by simp only [St.up_n] at hn; omega)
end
end Go.Proofs.Ytbjgoajdfdonfaa
