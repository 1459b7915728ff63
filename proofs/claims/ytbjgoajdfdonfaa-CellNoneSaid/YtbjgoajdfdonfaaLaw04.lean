/- Layer 4: the laws' own walks. -/
import Derived.Test.YtbjgoajdfdonfaaCell
import Derived.Test.YtbjgoajdfdonfaaEngR
namespace Go.Proofs.Ytbjgoajdfdonfaa
set_option linter.unusedSimpArgs false
set_option linter.unusedVariables false
open Go Go.RowKit
section
variable {B : World} {σ : St} {K : Value → St → Prop}

/-- An access: a kind, an old number, a new one; what is answered, and the number behind it. -/
def accA (kd x v : Int) : Int := if kd = 0 then v else if kd = 1 then 0 else if kd = 2 then v else 0
def accB (kd old v : Int) : Bool := if kd = 0 then false else if kd = 1 then false else if kd = 2 then false else decide (v = old)
def accV (kd old x v : Int) : Int := if kd = 0 then v else if kd = 1 then x else if kd = 2 then x else if v = old then x else v

theorem do_some {b : Nat} {ty : TypeId} {kd old x v n : Int} (hm : σ.m b = some (.raw (.cells #[.int .i64 v, .int .i64 n] ty (0, 0))))
    (hK : ∀ k, σ.n ≤ k → K (.tuple #[.int .i64 (accA kd x v), .bool (accB kd old v)]) (leftAs σ b #[.int .i64 (accV kd old x v), .int .i64 (IntKind.i64.wrap (n + 1))] ty k)) :
    Fn Try.prog B 17 #[.pointer (some ⟨b, 0, none⟩), .agg #[.int .i64 kd, .int .i64 old, .int .i64 x]] σ K := by
  refine Fn.of' is17 (by simp) fun hwf => ?_
  have hb := (hwf.2 b _ hm).2
  simp only [b17, Try.f17, Option.getD_some]
  simp (disch := first | omega | ((try simp only [St.set_n, St.up_n, List.length_cons, List.length_nil]); omega)) only [go_sem, Nat.reduceAdd, Nat.reduceMul, Nat.reduceSub, Int.reduceAdd, Int.reduceMul, Int.reduceSub, Int.reduceNeg, Int.reduceToNat]
  by_cases h0 : kd = 0
  · simp (disch := first | omega | ((try simp only [St.set_n, St.up_n, List.length_cons, List.length_nil]); omega)) only [go_sem, Nat.reduceAdd, Nat.reduceMul, Nat.reduceSub, Int.reduceAdd, Int.reduceMul, Int.reduceSub, Int.reduceNeg, Int.reduceToNat, h0]
    refine callF_of (loadI (c := #[.int .i64 v, .int .i64 n]) (ty := ty) (n := n) (by simp (disch := first | omega | ((try simp only [St.set_n, St.up_n, List.length_cons, List.length_nil]); omega)) only [go_sem, Nat.reduceAdd, Nat.reduceMul, Nat.reduceSub, Int.reduceAdd, Int.reduceMul, Int.reduceSub, Int.reduceNeg, Int.reduceToNat, hm]) rfl rfl fun k hk => ?_)
    unfold leftAs
    simp (disch := first | omega | ((try simp only [St.set_n, St.up_n, List.length_cons, List.length_nil]); omega)) only [go_sem, Nat.reduceAdd, Nat.reduceMul, Nat.reduceSub, Int.reduceAdd, Int.reduceMul, Int.reduceSub, Int.reduceNeg, Int.reduceToNat]
    refine ⟨_, To.obj (b := b) (by simp (disch := first | omega | ((try simp only [St.set_n, St.up_n, List.length_cons, List.length_nil]); omega)) only [go_sem, Nat.reduceAdd, Nat.reduceMul, Nat.reduceSub, Int.reduceAdd, Int.reduceMul, Int.reduceSub, Int.reduceNeg, Int.reduceToNat] <;> rfl) (fun d y h1 h2 h3 => by simp (disch := first | omega | ((try simp only [St.set_n, St.up_n, List.length_cons, List.length_nil]); omega)) only [go_sem, Nat.reduceAdd, Nat.reduceMul, Nat.reduceSub, Int.reduceAdd, Int.reduceMul, Int.reduceSub, Int.reduceNeg, Int.reduceToNat, h3]) hwf, ?_⟩
    have := hK k (by simp only [St.up_n, St.set_n] at hk; omega)
    simpa [accA, accB, accV, h0, leftAs] using this
  by_cases h1 : kd = 1
  · simp (disch := first | omega | ((try simp only [St.set_n, St.up_n, List.length_cons, List.length_nil]); omega)) only [go_sem, Nat.reduceAdd, Nat.reduceMul, Nat.reduceSub, Int.reduceAdd, Int.reduceMul, Int.reduceSub, Int.reduceNeg, Int.reduceToNat, h0, h1]
    refine callF_of (store (c := #[.int .i64 v, .int .i64 n]) (ty := ty) (n := n) (by simp (disch := first | omega | ((try simp only [St.set_n, St.up_n, List.length_cons, List.length_nil]); omega)) only [go_sem, Nat.reduceAdd, Nat.reduceMul, Nat.reduceSub, Int.reduceAdd, Int.reduceMul, Int.reduceSub, Int.reduceNeg, Int.reduceToNat, hm]) rfl rfl fun k hk => ?_)
    unfold leftAs
    simp (disch := first | omega | ((try simp only [St.set_n, St.up_n, List.length_cons, List.length_nil]); omega)) only [go_sem, Nat.reduceAdd, Nat.reduceMul, Nat.reduceSub, Int.reduceAdd, Int.reduceMul, Int.reduceSub, Int.reduceNeg, Int.reduceToNat]
    refine ⟨_, To.obj (b := b) (by simp (disch := first | omega | ((try simp only [St.set_n, St.up_n, List.length_cons, List.length_nil]); omega)) only [go_sem, Nat.reduceAdd, Nat.reduceMul, Nat.reduceSub, Int.reduceAdd, Int.reduceMul, Int.reduceSub, Int.reduceNeg, Int.reduceToNat] <;> rfl) (fun d y h1 h2 h3 => by simp (disch := first | omega | ((try simp only [St.set_n, St.up_n, List.length_cons, List.length_nil]); omega)) only [go_sem, Nat.reduceAdd, Nat.reduceMul, Nat.reduceSub, Int.reduceAdd, Int.reduceMul, Int.reduceSub, Int.reduceNeg, Int.reduceToNat, h3]) hwf, ?_⟩
    have := hK k (by simp only [St.up_n, St.set_n] at hk; omega)
    simpa [accA, accB, accV, h0, h1, leftAs] using this
  by_cases h2 : kd = 2
  · simp (disch := first | omega | ((try simp only [St.set_n, St.up_n, List.length_cons, List.length_nil]); omega)) only [go_sem, Nat.reduceAdd, Nat.reduceMul, Nat.reduceSub, Int.reduceAdd, Int.reduceMul, Int.reduceSub, Int.reduceNeg, Int.reduceToNat, h0, h1, h2]
    refine callF_of (swapI (c := #[.int .i64 v, .int .i64 n]) (ty := ty) (n := n) (by simp (disch := first | omega | ((try simp only [St.set_n, St.up_n, List.length_cons, List.length_nil]); omega)) only [go_sem, Nat.reduceAdd, Nat.reduceMul, Nat.reduceSub, Int.reduceAdd, Int.reduceMul, Int.reduceSub, Int.reduceNeg, Int.reduceToNat, hm]) rfl rfl fun k hk => ?_)
    unfold leftAs
    simp (disch := first | omega | ((try simp only [St.set_n, St.up_n, List.length_cons, List.length_nil]); omega)) only [go_sem, Nat.reduceAdd, Nat.reduceMul, Nat.reduceSub, Int.reduceAdd, Int.reduceMul, Int.reduceSub, Int.reduceNeg, Int.reduceToNat]
    refine ⟨_, To.obj (b := b) (by simp (disch := first | omega | ((try simp only [St.set_n, St.up_n, List.length_cons, List.length_nil]); omega)) only [go_sem, Nat.reduceAdd, Nat.reduceMul, Nat.reduceSub, Int.reduceAdd, Int.reduceMul, Int.reduceSub, Int.reduceNeg, Int.reduceToNat] <;> rfl) (fun d y h1 h2 h3 => by simp (disch := first | omega | ((try simp only [St.set_n, St.up_n, List.length_cons, List.length_nil]); omega)) only [go_sem, Nat.reduceAdd, Nat.reduceMul, Nat.reduceSub, Int.reduceAdd, Int.reduceMul, Int.reduceSub, Int.reduceNeg, Int.reduceToNat, h3]) hwf, ?_⟩
    have := hK k (by simp only [St.up_n, St.set_n] at hk; omega)
    simpa [accA, accB, accV, h0, h1, h2, leftAs] using this
  · simp (disch := first | omega | ((try simp only [St.set_n, St.up_n, List.length_cons, List.length_nil]); omega)) only [go_sem, Nat.reduceAdd, Nat.reduceMul, Nat.reduceSub, Int.reduceAdd, Int.reduceMul, Int.reduceSub, Int.reduceNeg, Int.reduceToNat, h0, h1, h2]
    refine callF_of (casI (c := #[.int .i64 v, .int .i64 n]) (ty := ty) (n := n) (by simp (disch := first | omega | ((try simp only [St.set_n, St.up_n, List.length_cons, List.length_nil]); omega)) only [go_sem, Nat.reduceAdd, Nat.reduceMul, Nat.reduceSub, Int.reduceAdd, Int.reduceMul, Int.reduceSub, Int.reduceNeg, Int.reduceToNat, hm]) rfl rfl fun k hk => ?_)
    unfold leftAs
    simp (disch := first | omega | ((try simp only [St.set_n, St.up_n, List.length_cons, List.length_nil]); omega)) only [go_sem, Nat.reduceAdd, Nat.reduceMul, Nat.reduceSub, Int.reduceAdd, Int.reduceMul, Int.reduceSub, Int.reduceNeg, Int.reduceToNat]
    refine ⟨_, To.obj (b := b) (by simp (disch := first | omega | ((try simp only [St.set_n, St.up_n, List.length_cons, List.length_nil]); omega)) only [go_sem, Nat.reduceAdd, Nat.reduceMul, Nat.reduceSub, Int.reduceAdd, Int.reduceMul, Int.reduceSub, Int.reduceNeg, Int.reduceToNat] <;> rfl) (fun d y h1 h2 h3 => by simp (disch := first | omega | ((try simp only [St.set_n, St.up_n, List.length_cons, List.length_nil]); omega)) only [go_sem, Nat.reduceAdd, Nat.reduceMul, Nat.reduceSub, Int.reduceAdd, Int.reduceMul, Int.reduceSub, Int.reduceNeg, Int.reduceToNat, h3]) hwf, ?_⟩
    have := hK k (by simp only [St.up_n, St.set_n] at hk; omega)
    by_cases h : v = old <;> simpa [accA, accB, accV, h0, h1, h2, leftAs, h] using this
theorem do_none {kd old x : Int} (hK : ∀ k, σ.n ≤ k → K (.tuple #[.int .i64 0, .bool false]) (σ.up k)) :
    Fn Try.prog B 17 #[.pointer none, .agg #[.int .i64 kd, .int .i64 old, .int .i64 x]] σ K := by
  refine Fn.of' is17 (by simp) fun hwf => ?_
  simp only [b17, Try.f17, Option.getD_some]
  simp (disch := first | omega | ((try simp only [St.set_n, St.up_n, List.length_cons, List.length_nil]); omega)) only [go_sem, Nat.reduceAdd, Nat.reduceMul, Nat.reduceSub, Int.reduceAdd, Int.reduceMul, Int.reduceSub, Int.reduceNeg, Int.reduceToNat]
  by_cases h0 : kd = 0
  · simp (disch := first | omega | ((try simp only [St.set_n, St.up_n, List.length_cons, List.length_nil]); omega)) only [go_sem, Nat.reduceAdd, Nat.reduceMul, Nat.reduceSub, Int.reduceAdd, Int.reduceMul, Int.reduceSub, Int.reduceNeg, Int.reduceToNat, h0]
    refine callF_of (loadI_none fun k hk => ?_)
    simp (disch := first | omega | ((try simp only [St.set_n, St.up_n, List.length_cons, List.length_nil]); omega)) only [go_sem, Nat.reduceAdd, Nat.reduceMul, Nat.reduceSub, Int.reduceAdd, Int.reduceMul, Int.reduceSub, Int.reduceNeg, Int.reduceToNat]
    exact ⟨_, To.same (fun d y h2 h3 => by simp (disch := first | omega | ((try simp only [St.set_n, St.up_n, List.length_cons, List.length_nil]); omega)) only [go_sem, Nat.reduceAdd, Nat.reduceMul, Nat.reduceSub, Int.reduceAdd, Int.reduceMul, Int.reduceSub, Int.reduceNeg, Int.reduceToNat, h3]) hwf, hK _ (by simp only [St.up_n, St.set_n] at hk ⊢; omega)⟩
  by_cases h1 : kd = 1
  · simp (disch := first | omega | ((try simp only [St.set_n, St.up_n, List.length_cons, List.length_nil]); omega)) only [go_sem, Nat.reduceAdd, Nat.reduceMul, Nat.reduceSub, Int.reduceAdd, Int.reduceMul, Int.reduceSub, Int.reduceNeg, Int.reduceToNat, h0, h1]
    refine callF_of (store_none fun k hk => ?_)
    simp (disch := first | omega | ((try simp only [St.set_n, St.up_n, List.length_cons, List.length_nil]); omega)) only [go_sem, Nat.reduceAdd, Nat.reduceMul, Nat.reduceSub, Int.reduceAdd, Int.reduceMul, Int.reduceSub, Int.reduceNeg, Int.reduceToNat]
    exact ⟨_, To.same (fun d y h2 h3 => by simp (disch := first | omega | ((try simp only [St.set_n, St.up_n, List.length_cons, List.length_nil]); omega)) only [go_sem, Nat.reduceAdd, Nat.reduceMul, Nat.reduceSub, Int.reduceAdd, Int.reduceMul, Int.reduceSub, Int.reduceNeg, Int.reduceToNat, h3]) hwf, hK _ (by simp only [St.up_n, St.set_n] at hk ⊢; omega)⟩
  by_cases h2 : kd = 2
  · simp (disch := first | omega | ((try simp only [St.set_n, St.up_n, List.length_cons, List.length_nil]); omega)) only [go_sem, Nat.reduceAdd, Nat.reduceMul, Nat.reduceSub, Int.reduceAdd, Int.reduceMul, Int.reduceSub, Int.reduceNeg, Int.reduceToNat, h0, h1, h2]
    refine callF_of (swapI_none fun k hk => ?_)
    simp (disch := first | omega | ((try simp only [St.set_n, St.up_n, List.length_cons, List.length_nil]); omega)) only [go_sem, Nat.reduceAdd, Nat.reduceMul, Nat.reduceSub, Int.reduceAdd, Int.reduceMul, Int.reduceSub, Int.reduceNeg, Int.reduceToNat]
    exact ⟨_, To.same (fun d y h2 h3 => by simp (disch := first | omega | ((try simp only [St.set_n, St.up_n, List.length_cons, List.length_nil]); omega)) only [go_sem, Nat.reduceAdd, Nat.reduceMul, Nat.reduceSub, Int.reduceAdd, Int.reduceMul, Int.reduceSub, Int.reduceNeg, Int.reduceToNat, h3]) hwf, hK _ (by simp only [St.up_n, St.set_n] at hk ⊢; omega)⟩
  · simp (disch := first | omega | ((try simp only [St.set_n, St.up_n, List.length_cons, List.length_nil]); omega)) only [go_sem, Nat.reduceAdd, Nat.reduceMul, Nat.reduceSub, Int.reduceAdd, Int.reduceMul, Int.reduceSub, Int.reduceNeg, Int.reduceToNat, h0, h1, h2]
    refine callF_of (casI_none fun k hk => ?_)
    simp (disch := first | omega | ((try simp only [St.set_n, St.up_n, List.length_cons, List.length_nil]); omega)) only [go_sem, Nat.reduceAdd, Nat.reduceMul, Nat.reduceSub, Int.reduceAdd, Int.reduceMul, Int.reduceSub, Int.reduceNeg, Int.reduceToNat]
    exact ⟨_, To.same (fun d y h2 h3 => by simp (disch := first | omega | ((try simp only [St.set_n, St.up_n, List.length_cons, List.length_nil]); omega)) only [go_sem, Nat.reduceAdd, Nat.reduceMul, Nat.reduceSub, Int.reduceAdd, Int.reduceMul, Int.reduceSub, Int.reduceNeg, Int.reduceToNat, h3]) hwf, hK _ (by simp only [St.up_n, St.set_n] at hk ⊢; omega)⟩
theorem refDo {b : Nat} {ty : TypeId} {kd old x v n : Int} (hm : σ.m b = some (.raw (.cells #[.int .i64 v, .int .i64 n] ty (0, 0))))
    (hK : K (.tuple #[.int .i64 (accA kd x v), .bool (accB kd old v)]) (σ.set b (.raw (.cells #[.int .i64 (accV kd old x v), .int .i64 (IntKind.i64.wrap (n + 1))] ty (0, 0))))) :
    Fn Try.prog B 18 #[.pointer (some ⟨b, 0, none⟩), .int .i64 kd, .int .i64 old, .int .i64 x] σ K := by
  refine Fn.of is18 (by simp) fun hwf => ?_
  have hb := (hwf.2 b _ hm).2
  simp only [b18, Try.f18, Option.getD_some]
  simp (disch := first | omega | ((try simp only [St.set_n, St.up_n, List.length_cons, List.length_nil]); omega)) only [go_sem, Nat.reduceAdd, Nat.reduceMul, Nat.reduceSub, Int.reduceAdd, Int.reduceMul, Int.reduceSub, Int.reduceNeg, Int.reduceToNat, hm]
  by_cases h0 : kd = 0
  · simp (disch := first | omega | ((try simp only [St.set_n, St.up_n, List.length_cons, List.length_nil]); omega)) only [go_sem, Nat.reduceAdd, Nat.reduceMul, Nat.reduceSub, Int.reduceAdd, Int.reduceMul, Int.reduceSub, Int.reduceNeg, Int.reduceToNat, h0]
    simpa [accA, accB, accV, h0] using hK
  by_cases h1 : kd = 1
  · simp (disch := first | omega | ((try simp only [St.set_n, St.up_n, List.length_cons, List.length_nil]); omega)) only [go_sem, Nat.reduceAdd, Nat.reduceMul, Nat.reduceSub, Int.reduceAdd, Int.reduceMul, Int.reduceSub, Int.reduceNeg, Int.reduceToNat, h0, h1]
    simpa [accA, accB, accV, h0, h1] using hK
  by_cases h2 : kd = 2
  · simp (disch := first | omega | ((try simp only [St.set_n, St.up_n, List.length_cons, List.length_nil]); omega)) only [go_sem, Nat.reduceAdd, Nat.reduceMul, Nat.reduceSub, Int.reduceAdd, Int.reduceMul, Int.reduceSub, Int.reduceNeg, Int.reduceToNat, h0, h1, h2]
    simpa [accA, accB, accV, h0, h1, h2] using hK
  by_cases h3 : v = old
  · simp (disch := first | omega | ((try simp only [St.set_n, St.up_n, List.length_cons, List.length_nil]); omega)) only [go_sem, Nat.reduceAdd, Nat.reduceMul, Nat.reduceSub, Int.reduceAdd, Int.reduceMul, Int.reduceSub, Int.reduceNeg, Int.reduceToNat, h0, h1, h2, h3]
    simpa [accA, accB, accV, h0, h1, h2, h3] using hK
  · simp (disch := first | omega | ((try simp only [St.set_n, St.up_n, List.length_cons, List.length_nil]); omega)) only [go_sem, Nat.reduceAdd, Nat.reduceMul, Nat.reduceSub, Int.reduceAdd, Int.reduceMul, Int.reduceSub, Int.reduceNeg, Int.reduceToNat, h0, h1, h2, h3]
    simpa [accA, accB, accV, h0, h1, h2, h3] using hK
theorem awake04 (hK : ∀ k, σ.n ≤ k → K (.bool true) (σ.up k)) : Fn Try.prog B 15 #[] σ K := by
  refine Fn.of' is15 (by simp) fun hwf => ?_
  simp only [b15, Try.f15, Option.getD_some]
  simp (disch := first | omega | ((try simp only [St.set_n, St.up_n, List.length_cons, List.length_nil]); omega)) only [go_sem, Nat.reduceAdd, Nat.reduceMul, Nat.reduceSub, Int.reduceAdd, Int.reduceMul, Int.reduceSub, Int.reduceNeg, Int.reduceToNat]
  refine callF_of (cell_new 1 ?_)
  simp (disch := first | omega | ((try simp only [St.set_n, St.up_n, List.length_cons, List.length_nil]); omega)) only [go_sem, Nat.reduceAdd, Nat.reduceMul, Nat.reduceSub, Int.reduceAdd, Int.reduceMul, Int.reduceSub, Int.reduceNeg, Int.reduceToNat]
  refine callF_of (casI (c := #[.int .i64 1, .int .i64 0]) (ty := 46) (n := 0) (by simp (disch := first | omega | ((try simp only [St.set_n, St.up_n, List.length_cons, List.length_nil]); omega)) only [go_sem, Nat.reduceAdd, Nat.reduceMul, Nat.reduceSub, Int.reduceAdd, Int.reduceMul, Int.reduceSub, Int.reduceNeg, Int.reduceToNat] <;> rfl) rfl rfl fun k hk => ?_)
  unfold leftAs
  simp (disch := first | omega | ((try simp only [St.set_n, St.up_n, List.length_cons, List.length_nil]); omega)) only [go_sem, Nat.reduceAdd, Nat.reduceMul, Nat.reduceSub, Int.reduceAdd, Int.reduceMul, Int.reduceSub, Int.reduceNeg, Int.reduceToNat]
  refine callF_of (casI (c := #[.int .i64 2, .int .i64 1]) (ty := 46) (n := 1) (by simp (disch := first | omega | ((try simp only [St.set_n, St.up_n, List.length_cons, List.length_nil]); omega)) only [go_sem, Nat.reduceAdd, Nat.reduceMul, Nat.reduceSub, Int.reduceAdd, Int.reduceMul, Int.reduceSub, Int.reduceNeg, Int.reduceToNat] <;> rfl) rfl rfl fun k' hk' => ?_)
  unfold leftAs
  simp (disch := first | omega | ((try simp only [St.set_n, St.up_n, List.length_cons, List.length_nil]); omega)) only [go_sem, Nat.reduceAdd, Nat.reduceMul, Nat.reduceSub, Int.reduceAdd, Int.reduceMul, Int.reduceSub, Int.reduceNeg, Int.reduceToNat]
  refine callF_of (peekI (c := #[.int .i64 2, .int .i64 2]) (ty := 46) (x := 2) (by simp (disch := first | omega | ((try simp only [St.set_n, St.up_n, List.length_cons, List.length_nil]); omega)) only [go_sem, Nat.reduceAdd, Nat.reduceMul, Nat.reduceSub, Int.reduceAdd, Int.reduceMul, Int.reduceSub, Int.reduceNeg, Int.reduceToNat] <;> rfl) rfl ?_)
  simp (disch := first | omega | ((try simp only [St.set_n, St.up_n, List.length_cons, List.length_nil]); omega)) only [go_sem, Nat.reduceAdd, Nat.reduceMul, Nat.reduceSub, Int.reduceAdd, Int.reduceMul, Int.reduceSub, Int.reduceNeg, Int.reduceToNat]
  refine ⟨_, To.same (fun d y h2 h3 => by simp (disch := first | omega | ((try simp only [St.set_n, St.up_n, List.length_cons, List.length_nil]); omega)) only [go_sem, Nat.reduceAdd, Nat.reduceMul, Nat.reduceSub, Int.reduceAdd, Int.reduceMul, Int.reduceSub, Int.reduceNeg, Int.reduceToNat, h3]) hwf, ?_⟩
  exact hK _ (by simp only [St.up_n, St.set_n] at hk hk' ⊢; omega)
end
end Go.Proofs.Ytbjgoajdfdonfaa
