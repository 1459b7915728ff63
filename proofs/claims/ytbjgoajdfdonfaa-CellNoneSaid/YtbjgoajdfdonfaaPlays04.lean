/- 'CellPlays' and 'CellNone': the walks. -/
import Derived.Test.YtbjgoajdfdonfaaLaw04
namespace Go.Proofs.Ytbjgoajdfdonfaa
set_option linter.unusedSimpArgs false
set_option linter.unusedVariables false
open Go Go.RowKit
section
variable {B : World} {σ : St} {K : Value → St → Prop}

/-- An access as it lies in memory. -/
def RAcc (x : Int × Int × Int) (cs : List Value) : Prop := cs = [.int .i64 x.1, .int .i64 x.2.1, .int .i64 x.2.2]
theorem St.wf.low (h : σ.wf B) {b : Nat} (hb : b < B.heap.size) : σ.m b = none := by
  cases hm : σ.m b with
  | none => rfl
  | some x => have := (h.2 b x hm).1; omega

theorem plays04 {first : Int} {l : List (Int × Int × Int)} {v : Value} (hl : SlR B 3 RAcc l v) (hK : ∀ k, σ.n ≤ k → K (.bool true) (σ.up k)) : Fn Try.prog B 3 #[.int .i64 first, v] σ K := by
  obtain ⟨a, cap, rfl, hlc, hcm, hnil, hat⟩ := hl
  refine Fn.of' is3 (by simp) fun hwf => ?_
  have hB := hwf.1
  simp only [b3, Try.f3, Option.getD_some]
  simp (disch := first | omega | ((try simp only [St.set_n, St.up_n, List.length_cons, List.length_nil]); omega)) only [go_sem, Nat.reduceAdd, Nat.reduceMul, Nat.reduceSub, Int.reduceAdd, Int.reduceMul, Int.reduceSub, Int.reduceNeg, Int.reduceToNat]
  refine callF_of (awake04 fun k hk => ?_)
  simp (disch := first | omega | ((try simp only [St.set_n, St.up_n, List.length_cons, List.length_nil]); omega)) only [go_sem, Nat.reduceAdd, Nat.reduceMul, Nat.reduceSub, Int.reduceAdd, Int.reduceMul, Int.reduceSub, Int.reduceNeg, Int.reduceToNat]
  by_cases h300 : (300 : Int) < l.length
  · simp (disch := first | omega | ((try simp only [St.set_n, St.up_n, List.length_cons, List.length_nil]); omega)) only [go_sem, Nat.reduceAdd, Nat.reduceMul, Nat.reduceSub, Int.reduceAdd, Int.reduceMul, Int.reduceSub, Int.reduceNeg, Int.reduceToNat, h300]
    exact ⟨_, To.same (fun d y h2 h3 => by simp (disch := first | omega | ((try simp only [St.set_n, St.up_n, List.length_cons, List.length_nil]); omega)) only [go_sem, Nat.reduceAdd, Nat.reduceMul, Nat.reduceSub, Int.reduceAdd, Int.reduceMul, Int.reduceSub, Int.reduceNeg, Int.reduceToNat, h3]) hwf, hK _ (by (try simp only [St.up_n, St.set_n, leftAs] at *); omega)⟩
  simp (disch := first | omega | ((try simp only [St.set_n, St.up_n, List.length_cons, List.length_nil]); omega)) only [go_sem, Nat.reduceAdd, Nat.reduceMul, Nat.reduceSub, Int.reduceAdd, Int.reduceMul, Int.reduceSub, Int.reduceNeg, Int.reduceToNat, h300]
  refine callF_of (cell_new first ?_)
  simp (disch := first | omega | ((try simp only [St.set_n, St.up_n, List.length_cons, List.length_nil]); omega)) only [go_sem, Nat.reduceAdd, Nat.reduceMul, Nat.reduceSub, Int.reduceAdd, Int.reduceMul, Int.reduceSub, Int.reduceNeg, Int.reduceToNat]
  refine loop_rule (fun m e s => ∃ (i : Nat) (u : Int), m = l.length - i ∧ i ≤ l.length ∧ e.v 1 = .slice a l.length cap ∧ e.v 5 = .pointer (some ⟨k, 0, none⟩) ∧ e.v 6 = .pointer (some ⟨k + 1, 0, none⟩) ∧ e.v 7 = .int .i64 i ∧ e.d = [] ∧
    s.m k = some (.raw (.cells #[.int .i64 u, .int .i64 i] 46 (0, 0))) ∧ s.m (k + 1) = some (.raw (.cells #[.int .i64 u, .int .i64 i] 28 (0, 0))) ∧ (∀ c x, c < σ.n → σ.m c = some x → s.m c = some x) ∧ k ≤ s.n) l.length ?_ ?_
  · refine ⟨0, first, by omega, by omega, ?_⟩
    simp (disch := first | omega | ((try simp only [St.set_n, St.up_n, List.length_cons, List.length_nil]); omega)) only [go_sem, Nat.reduceAdd, Nat.reduceMul, Nat.reduceSub, Int.reduceAdd, Int.reduceMul, Int.reduceSub, Int.reduceNeg, Int.reduceToNat]
    simp
    exact ⟨fun c x hc hx => by simp (disch := first | omega | ((try simp only [St.set_n, St.up_n, List.length_cons, List.length_nil]); omega)) only [go_sem, Nat.reduceAdd, Nat.reduceMul, Nat.reduceSub, Int.reduceAdd, Int.reduceMul, Int.reduceSub, Int.reduceNeg, Int.reduceToNat, hx], by omega⟩
  · rintro m e s hws ⟨i, u, hm, hi, h1, h5, h6, h7, hd, hc, hx, hσ, hks⟩
    simp (disch := first | omega | ((try simp only [St.set_n, St.up_n, List.length_cons, List.length_nil]); omega)) only [go_sem, Nat.reduceAdd, Nat.reduceMul, Nat.reduceSub, Int.reduceAdd, Int.reduceMul, Int.reduceSub, Int.reduceNeg, Int.reduceToNat, h1, h5, h6, h7]
    by_cases hlt : (i : Int) < l.length
    · obtain ⟨⟨kd, old, x⟩, hacc⟩ : ∃ x, l[i]? = some x := ⟨l[i]'(by omega), List.getElem?_eq_getElem (by omega)⟩
      obtain ⟨b, o, cs, rfl, hb, hR, hsz, hcell⟩ := hat i _ hacc
      simp only [RAcc] at hR
      subst hR
      have c0 : B.cell? ⟨b, o + i * 3, none⟩ = _ := hcell 0 _ rfl
      have c1 := hcell 1 _ rfl
      have c2 := hcell 2 _ rfl
      have hbs := hws.low hb
      simp (disch := first | omega | ((try simp only [St.set_n, St.up_n, List.length_cons, List.length_nil]); omega)) only [go_sem, Nat.reduceAdd, Nat.reduceMul, Nat.reduceSub, Int.reduceAdd, Int.reduceMul, Int.reduceSub, Int.reduceNeg, Int.reduceToNat, h1, h5, h6, h7, hlt, hbs, hb, c0, c1, c2]
      refine callF_of (do_some (v := u) (n := i) hc fun j hj => ?_)
      unfold leftAs
      simp (disch := first | omega | ((try simp only [St.set_n, St.up_n, List.length_cons, List.length_nil]); omega)) only [go_sem, Nat.reduceAdd, Nat.reduceMul, Nat.reduceSub, Int.reduceAdd, Int.reduceMul, Int.reduceSub, Int.reduceNeg, Int.reduceToNat, h1, h5, h6, h7, hlt, hbs, hb, c0, c1, c2]
      refine effD_cut (by kernel_rfl) ?_
      simp (disch := first | omega | ((try simp only [St.set_n, St.up_n, List.length_cons, List.length_nil]); omega)) only [go_sem, Nat.reduceAdd, Nat.reduceMul, Nat.reduceSub, Int.reduceAdd, Int.reduceMul, Int.reduceSub, Int.reduceNeg, Int.reduceToNat]
      intro j2 hj2
      refine callF_of (refDo (v := u) (n := i) (ty := 28) (by simp (disch := first | omega | ((try simp only [St.set_n, St.up_n, List.length_cons, List.length_nil]); omega)) only [go_sem, Nat.reduceAdd, Nat.reduceMul, Nat.reduceSub, Int.reduceAdd, Int.reduceMul, Int.reduceSub, Int.reduceNeg, Int.reduceToNat, hx] <;> rfl) ?_)
      simp (disch := first | omega | ((try simp only [St.set_n, St.up_n, List.length_cons, List.length_nil]); omega)) only [go_sem, Nat.reduceAdd, Nat.reduceMul, Nat.reduceSub, Int.reduceAdd, Int.reduceMul, Int.reduceSub, Int.reduceNeg, Int.reduceToNat, h1, h5, h6, h7, hlt]
      intro j3 hj3
      refine effD_quiet (.int .i64 (accV kd old x u)) (fun m hm => ?_) ?_
      · simp (disch := first | omega | ((try simp only [St.set_n, St.up_n, List.length_cons, List.length_nil]); omega)) only [go_sem, Nat.reduceAdd, Nat.reduceMul, Nat.reduceSub, Int.reduceAdd, Int.reduceMul, Int.reduceSub, Int.reduceNeg, Int.reduceToNat, h1, h5, h6, h7, hlt]
        exact peekI (c := #[.int .i64 (accV kd old x u), .int .i64 (i + 1)]) (ty := 46) (by simp (disch := first | omega | ((try simp only [St.set_n, St.up_n, List.length_cons, List.length_nil]); omega)) only [go_sem, Nat.reduceAdd, Nat.reduceMul, Nat.reduceSub, Int.reduceAdd, Int.reduceMul, Int.reduceSub, Int.reduceNeg, Int.reduceToNat] <;> rfl) rfl ⟨rfl, m, Nat.le_refl _, rfl⟩
      simp (disch := first | omega | ((try simp only [St.set_n, St.up_n, List.length_cons, List.length_nil]); omega)) only [go_sem, Nat.reduceAdd, Nat.reduceMul, Nat.reduceSub, Int.reduceAdd, Int.reduceMul, Int.reduceSub, Int.reduceNeg, Int.reduceToNat, h1, h5, h6, h7, hlt]
      refine effD_quiet (.int .i64 (i + 1)) (fun m hm => ?_) ?_
      · simp (disch := first | omega | ((try simp only [St.set_n, St.up_n, List.length_cons, List.length_nil]); omega)) only [go_sem, Nat.reduceAdd, Nat.reduceMul, Nat.reduceSub, Int.reduceAdd, Int.reduceMul, Int.reduceSub, Int.reduceNeg, Int.reduceToNat, h1, h5, h6, h7, hlt]
        exact countI (c := #[.int .i64 (accV kd old x u), .int .i64 (i + 1)]) (ty := 46) (by simp (disch := first | omega | ((try simp only [St.set_n, St.up_n, List.length_cons, List.length_nil]); omega)) only [go_sem, Nat.reduceAdd, Nat.reduceMul, Nat.reduceSub, Int.reduceAdd, Int.reduceMul, Int.reduceSub, Int.reduceNeg, Int.reduceToNat] <;> rfl) rfl ⟨rfl, m, Nat.le_refl _, rfl⟩
      simp (disch := first | omega | ((try simp only [St.set_n, St.up_n, List.length_cons, List.length_nil]); omega)) only [go_sem, Nat.reduceAdd, Nat.reduceMul, Nat.reduceSub, Int.reduceAdd, Int.reduceMul, Int.reduceSub, Int.reduceNeg, Int.reduceToNat, h1, h5, h6, h7, hlt]
      intro j4 hj4
      refine ⟨l.length - (i + 1), by omega, i + 1, accV kd old x u, rfl, by omega, ?_⟩
      simp (disch := first | omega | ((try simp only [St.set_n, St.up_n, List.length_cons, List.length_nil]); omega)) only [go_sem, Nat.reduceAdd, Nat.reduceMul, Nat.reduceSub, Int.reduceAdd, Int.reduceMul, Int.reduceSub, Int.reduceNeg, Int.reduceToNat, h1, h5, h6, h7, hlt, hd]
      simp only [Int.natCast_add, Int.cast_ofNat_Int, true_and]
      refine ⟨fun c y hc hy => ?_, by omega⟩
      have := hσ c y hc hy
      simp (disch := first | omega | ((try simp only [St.set_n, St.up_n, List.length_cons, List.length_nil]); omega)) only [go_sem, Nat.reduceAdd, Nat.reduceMul, Nat.reduceSub, Int.reduceAdd, Int.reduceMul, Int.reduceSub, Int.reduceNeg, Int.reduceToNat, this]
    · simp (disch := first | omega | ((try simp only [St.set_n, St.up_n, List.length_cons, List.length_nil]); omega)) only [go_sem, Nat.reduceAdd, Nat.reduceMul, Nat.reduceSub, Int.reduceAdd, Int.reduceMul, Int.reduceSub, Int.reduceNeg, Int.reduceToNat, h1, h5, h6, h7, hlt, hd]
      exact ⟨_, To.same (fun d y h2 h3 => hσ _ _ h2 h3) hwf, hK _ (by (try simp only [St.up_n, St.set_n, leftAs] at *); omega)⟩
end
end Go.Proofs.Ytbjgoajdfdonfaa
