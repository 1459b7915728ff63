/- 'SchedRuns': is it too great; two arrays that are the same. -/
import Derived.Test.YtgcojbgkenndhaaRunsA
namespace Go.Proofs.Ytgcojbgkenndhaa
set_option linter.unusedSimpArgs false
set_option linter.unusedVariables false
set_option maxRecDepth 100000
open Go Go.RowKit
section
variable {B : World} {σ τ : St} {K : Value → St → Prop}
theorem eg71 : Try.prog.eqGuardType Try.prog.depth 71 = false := by kernel_rfl
theorem eg90 : Try.prog.eqGuardType Try.prog.depth 90 = false := by kernel_rfl
theorem co3 : Try.prog.cellsOf 3 = 1 := by kernel_rfl
theorem if3 : (Try.prog.info? 3).isNone = false := by kernel_rfl
theorem eqI_int {d : Nat} {a : Int} : eqD Try.prog (d + 1) 3 (.int .i64 a) (.int .i64 a) = some true := by
  simp only [eqD, Try.underlying3, if_true, beq_self_eq_true]
theorem eqIs_one {xs : Array Value} {d i : Nat} {is : List Nat} {a : Int} (h : xs[i]? = some (.int .i64 a)) : eqIs Try.prog (fun t a b => eqD Try.prog (d + 1) t a b) 3 1 xs xs (i :: is) = eqIs Try.prog (fun t a b => eqD Try.prog (d + 1) t a b) 3 1 xs xs is := by
  have hp : prt Try.prog 3 xs (i * 1) = some (.int .i64 a) := by simp only [prt, tk3, Nat.mul_one, h]
  rw [eqIs, hp]
  simp only [eqI_int]
theorem eqD_array {P : Program} {d n : Nat} {t el : TypeId} {xs ys : Array Value} (hu : P.underlying t = some (.array n el)) (hi : (P.info? el).isNone = false) :
    eqD P (d + 1) t (.agg xs) (.agg ys) = eqIs P (fun t a b => eqD P d t a b) el (P.cellsOf el) xs ys (List.range n) := by
  simp only [eqD, hu, hi, Bool.false_eq_true, if_false]
theorem neq71 (a b c d : Int) : bin Try.prog .neq 71 (.agg #[.int .i64 a, .int .i64 b, .int .i64 c, .int .i64 d]) (.agg #[.int .i64 a, .int .i64 b, .int .i64 c, .int .i64 d]) = some (.bool false) := by
  have h : eqA Try.prog 71 #[.int .i64 a, .int .i64 b, .int .i64 c, .int .i64 d] #[.int .i64 a, .int .i64 b, .int .i64 c, .int .i64 d] = some true := by
    unfold eqA
    rw [eg71]
    simp only [Bool.false_eq_true, if_false]
    rw [eqD_array Try.underlying71 if3, co3, show List.range 4 = [0, 1, 2, 3] from rfl, eqIs_one (a := a) rfl, eqIs_one (a := b) rfl, eqIs_one (a := c) rfl, eqIs_one (a := d) rfl, eqIs]
  simp only [bin, h, Option.map_some, Bool.not_true]
theorem neq90 (a b c : Int) : bin Try.prog .neq 90 (.agg #[.int .i64 a, .int .i64 b, .int .i64 c]) (.agg #[.int .i64 a, .int .i64 b, .int .i64 c]) = some (.bool false) := by
  have h : eqA Try.prog 90 #[.int .i64 a, .int .i64 b, .int .i64 c] #[.int .i64 a, .int .i64 b, .int .i64 c] = some true := by
    unfold eqA
    rw [eg90]
    simp only [Bool.false_eq_true, if_false]
    rw [eqD_array Try.underlying90 if3, co3, show List.range 3 = [0, 1, 2] from rfl, eqIs_one (a := a) rfl, eqIs_one (a := b) rfl, eqIs_one (a := c) rfl, eqIs]
  simp only [bin, h, Option.map_some, Bool.not_true]
structure GrI (a : Option Addr) (n cap i : Nat) (e : Fr) : Prop where
  v1 : e.v 1 = .slice a n cap
  v5 : e.v 5 = .int .i64 i
  d : e.d = []
theorem great06 {th : List (List (Int × Int))} {tv pv : Value} {picks : List Int} (hv : SlR B 1 (RTh B) th tv) (hp : SlR B 1 RInt picks pv)
    (hyes : K (.bool true) σ) (hno : picks.length ≤ 500 → th.length ≤ 8 → Sm th → K (.bool false) σ) : Fn Try.prog B 43 #[pv, tv] σ K := by
  obtain ⟨a, cap, rfl, hlc, hcm, hnil, hat⟩ := hv
  obtain ⟨pa, pc, rfl, hlp, hcp, hpnil, hpat⟩ := hp
  refine Fn.of is43 (by simp) fun hwf => ?_
  have hB := hwf.1
  simp only [b43, Try.f43, Option.getD_some]
  by_cases h1 : (500 : Int) < picks.length
  · simp -implicitDefEqProofs (disch := first | omega | (simp only [St.set_n, St.up_n, List.length_cons, List.length_nil]; omega)) only [go_sem, Nat.reduceAdd, Nat.reduceMul, Nat.reduceSub, Int.reduceAdd, Int.reduceMul, Int.reduceSub, Int.reduceNeg, Int.reduceToNat, h1]
    exact hyes
  by_cases h2 : (8 : Int) < th.length
  · simp -implicitDefEqProofs (disch := first | omega | (simp only [St.set_n, St.up_n, List.length_cons, List.length_nil]; omega)) only [go_sem, Nat.reduceAdd, Nat.reduceMul, Nat.reduceSub, Int.reduceAdd, Int.reduceMul, Int.reduceSub, Int.reduceNeg, Int.reduceToNat, h1, h2]
    exact hyes
  simp -implicitDefEqProofs (disch := first | omega | (simp only [St.set_n, St.up_n, List.length_cons, List.length_nil]; omega)) only [go_sem, Nat.reduceAdd, Nat.reduceMul, Nat.reduceSub, Int.reduceAdd, Int.reduceMul, Int.reduceSub, Int.reduceNeg, Int.reduceToNat, h1, h2]
  refine loop_rule (fun m e s => ∃ i : Nat, m = th.length - i ∧ i ≤ th.length ∧ GrI a th.length cap i e ∧ s = σ ∧ ∀ t, t < i → lenT th t ≤ 60) th.length ?_ ?_
  · exact ⟨0, by omega, by omega, ⟨by simp -implicitDefEqProofs (disch := first | omega | (simp only [St.set_n, St.up_n, List.length_cons, List.length_nil]; omega)) only [go_sem, Nat.reduceAdd, Nat.reduceMul, Nat.reduceSub, Int.reduceAdd, Int.reduceMul, Int.reduceSub, Int.reduceNeg, Int.reduceToNat], by first | (simp -implicitDefEqProofs (disch := first | omega | (simp only [St.set_n, St.up_n, List.length_cons, List.length_nil]; omega)) only [go_sem, Nat.reduceAdd, Nat.reduceMul, Nat.reduceSub, Int.reduceAdd, Int.reduceMul, Int.reduceSub, Int.reduceNeg, Int.reduceToNat]; done) | (simp -implicitDefEqProofs (disch := first | omega | (simp only [St.set_n, St.up_n, List.length_cons, List.length_nil]; omega)) only [go_sem, Nat.reduceAdd, Nat.reduceMul, Nat.reduceSub, Int.reduceAdd, Int.reduceMul, Int.reduceSub, Int.reduceNeg, Int.reduceToNat]; rfl), by simp -implicitDefEqProofs (disch := first | omega | (simp only [St.set_n, St.up_n, List.length_cons, List.length_nil]; omega)) only [go_sem, Nat.reduceAdd, Nat.reduceMul, Nat.reduceSub, Int.reduceAdd, Int.reduceMul, Int.reduceSub, Int.reduceNeg, Int.reduceToNat]⟩, rfl, fun t ht => by omega⟩
  rintro m e s hws ⟨i, hm, hi, ⟨q1, q5, hd⟩, rfl, hall⟩
  by_cases hlt : (i : Int) < th.length
  · obtain ⟨l, hl⟩ : ∃ l, th[i]? = some l := ⟨th[i]'(by omega), List.getElem?_eq_getElem (by omega)⟩
    obtain ⟨b2, o2, cs2, rfl, hbb2, ⟨v1, hcs, hv1⟩, hsz2, hcell2⟩ := hat i l hl
    subst hcs
    have c2 : B.cell? ⟨b2, o2 + i * 1, none⟩ = _ := hcell2 0 _ rfl
    rw [Nat.mul_one] at c2
    obtain ⟨a3, cap3, rfl, hlc3, hcm3, hnil3, hat3⟩ := hv1
    have hsb2 : s.m b2 = none := by
      cases hx : s.m b2 with
      | none => rfl
      | some y => have := (hws.2 _ _ hx).1; omega
    have hlT : lenT th i = l.length := by unfold lenT; rw [List.getD_eq_getElem?_getD, hl]; rfl
    by_cases h3 : (60 : Int) < l.length
    · simp -implicitDefEqProofs (disch := first | omega | (simp only [St.set_n, St.up_n, List.length_cons, List.length_nil]; omega)) only [go_sem, Nat.reduceAdd, Nat.reduceMul, Nat.reduceSub, Int.reduceAdd, Int.reduceMul, Int.reduceSub, Int.reduceNeg, Int.reduceToNat, q1, q5, hlt, hsb2, hbb2, c2, h3, hd]
      exact hyes
    · simp -implicitDefEqProofs (disch := first | omega | (simp only [St.set_n, St.up_n, List.length_cons, List.length_nil]; omega)) only [go_sem, Nat.reduceAdd, Nat.reduceMul, Nat.reduceSub, Int.reduceAdd, Int.reduceMul, Int.reduceSub, Int.reduceNeg, Int.reduceToNat, q1, q5, hlt, hsb2, hbb2, c2, h3]
      exact ⟨_, by omega, i + 1, rfl, by omega, ⟨by simp -implicitDefEqProofs (disch := first | omega | (simp only [St.set_n, St.up_n, List.length_cons, List.length_nil]; omega)) only [go_sem, Nat.reduceAdd, Nat.reduceMul, Nat.reduceSub, Int.reduceAdd, Int.reduceMul, Int.reduceSub, Int.reduceNeg, Int.reduceToNat, q1], by simp -implicitDefEqProofs (disch := first | omega | (simp only [St.set_n, St.up_n, List.length_cons, List.length_nil]; omega)) only [go_sem, Nat.reduceAdd, Nat.reduceMul, Nat.reduceSub, Int.reduceAdd, Int.reduceMul, Int.reduceSub, Int.reduceNeg, Int.reduceToNat]; rfl, by simp -implicitDefEqProofs (disch := first | omega | (simp only [St.set_n, St.up_n, List.length_cons, List.length_nil]; omega)) only [go_sem, Nat.reduceAdd, Nat.reduceMul, Nat.reduceSub, Int.reduceAdd, Int.reduceMul, Int.reduceSub, Int.reduceNeg, Int.reduceToNat, hd]⟩, fun t ht => by
        by_cases e : t = i
        · subst e; omega
        · exact hall t (by omega)⟩
  · simp -implicitDefEqProofs (disch := first | omega | (simp only [St.set_n, St.up_n, List.length_cons, List.length_nil]; omega)) only [go_sem, Nat.reduceAdd, Nat.reduceMul, Nat.reduceSub, Int.reduceAdd, Int.reduceMul, Int.reduceSub, Int.reduceNeg, Int.reduceToNat, q1, q5, hlt, hd]
    exact hno (by omega) (by omega) ⟨by omega, fun t ht => hall t (by omega)⟩
end
end Go.Proofs.Ytgcojbgkenndhaa
