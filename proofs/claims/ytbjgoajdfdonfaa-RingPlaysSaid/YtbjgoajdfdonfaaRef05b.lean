/- The document's own groups: what is made, what is held; the same numbers. -/
import Derived.Test.YtbjgoajdfdonfaaRef05
namespace Go.Proofs.Ytbjgoajdfdonfaa
set_option linter.unusedSimpArgs false
set_option linter.unusedVariables false
open Go Go.RowKit
section
variable {B : World} {σ : St} {K : Value → St → Prop}

theorem zc_ints (n : Nat) : zc (.int .i64 0) n = (ints (List.replicate n 0)).toArray := by
  rw [zc_one rfl]
  apply Array.ext'
  simp [ints]
/-- The two orders in which two rows are made. -/
theorem ref_new {n : Int} (hK : ∀ r o c τ, σ.n ≤ r → r < τ.n → IsRef τ r o c (List.replicate (groupN n) (0, 0, 0)) → (∀ b x, b < σ.n → σ.m b = some x → τ.m b = some x) → (groupN n = 0 ∨ (σ.n ≤ o ∧ σ.n ≤ c)) → K (.pointer (some ⟨r, 0, none⟩)) τ) :
    Fn Try.prog B 62 #[.int .i64 n] σ K := by
  refine Fn.of is62 (by simp) fun hwf => ?_
  simp only [b62, Try.f62, Option.getD_some]
  by_cases h1 : n < 1
  · simp -implicitDefEqProofs (disch := first | omega | (simp only [St.set_n, St.up_n, List.length_cons, List.length_nil]; omega)) only [go_sem, Nat.reduceAdd, Nat.reduceMul, Nat.reduceSub, Int.reduceAdd, Int.reduceMul, Int.reduceSub, Int.reduceNeg, Int.reduceToNat, h1]
    have hg : groupN n = 0 := by unfold groupN; rw [if_neg (by omega)]
    refine hK _ 0 0 _ (Nat.le_refl _) (by simp) ?_ (fun c x hc hx => by simp -implicitDefEqProofs (disch := first | omega | (simp only [St.set_n, St.up_n, List.length_cons, List.length_nil]; omega)) only [go_sem, Nat.reduceAdd, Nat.reduceMul, Nat.reduceSub, Int.reduceAdd, Int.reduceMul, Int.reduceSub, Int.reduceNeg, Int.reduceToNat, hx]) (.inl hg)
    rw [hg]
    exact .inl ⟨rfl, by simp -implicitDefEqProofs (disch := first | omega | (simp only [St.set_n, St.up_n, List.length_cons, List.length_nil]; omega)) only [go_sem, Nat.reduceAdd, Nat.reduceMul, Nat.reduceSub, Int.reduceAdd, Int.reduceMul, Int.reduceSub, Int.reduceNeg, Int.reduceToNat]⟩
  · by_cases h2 : n > 1024
    · simp -implicitDefEqProofs (disch := first | omega | (simp only [St.set_n, St.up_n, List.length_cons, List.length_nil]; omega)) only [go_sem, Nat.reduceAdd, Nat.reduceMul, Nat.reduceSub, Int.reduceAdd, Int.reduceMul, Int.reduceSub, Int.reduceNeg, Int.reduceToNat, h1, h2]
      have hg : groupN n = 0 := by unfold groupN; rw [if_neg (by omega)]
      refine hK _ 0 0 _ (Nat.le_refl _) (by simp) ?_ (fun c x hc hx => by simp -implicitDefEqProofs (disch := first | omega | (simp only [St.set_n, St.up_n, List.length_cons, List.length_nil]; omega)) only [go_sem, Nat.reduceAdd, Nat.reduceMul, Nat.reduceSub, Int.reduceAdd, Int.reduceMul, Int.reduceSub, Int.reduceNeg, Int.reduceToNat, hx]) (.inl hg)
      rw [hg]
      exact .inl ⟨rfl, by simp -implicitDefEqProofs (disch := first | omega | (simp only [St.set_n, St.up_n, List.length_cons, List.length_nil]; omega)) only [go_sem, Nat.reduceAdd, Nat.reduceMul, Nat.reduceSub, Int.reduceAdd, Int.reduceMul, Int.reduceSub, Int.reduceNeg, Int.reduceToNat]⟩
    · simp -implicitDefEqProofs (disch := first | omega | (simp only [St.set_n, St.up_n, List.length_cons, List.length_nil]; omega)) only [go_sem, Nat.reduceAdd, Nat.reduceMul, Nat.reduceSub, Int.reduceAdd, Int.reduceMul, Int.reduceSub, Int.reduceNeg, Int.reduceToNat, h1, h2]
      have hg : groupN n = n.toNat := by unfold groupN; rw [if_pos (by omega)]
      have hz1 : (ints ((List.replicate n.toNat ((0, 0, 0) : Lk)).map (·.1))) = ints (List.replicate n.toNat 0) := by simp
      have hz2 : (ints ((List.replicate n.toNat ((0, 0, 0) : Lk)).map (·.2.2))) = ints (List.replicate n.toNat 0) := by simp
      refine effD_plan [0, 1, 0, 4, 15, 31, 63] [0, 2, 4, 6] (.eag 0 (.eag 2 (.alt 1 [] (.alt 3 [] (.eag 4 (.alt 5 [] (.eag 6 .fin) .stop)) .stop) (.alt 3 [] (.alt 1 [] (.eag 4 (.alt 5 [] (.eag 6 .fin) .stop)) .stop) .stop)))) (by kernel_rfl) ?_
      simp -implicitDefEqProofs (disch := first | omega | (simp only [St.set_n, St.up_n, List.length_cons, List.length_nil]; omega)) only [go_sem, Nat.reduceAdd, Nat.reduceMul, Nat.reduceSub, Int.reduceAdd, Int.reduceMul, Int.reduceSub, Int.reduceNeg, Int.reduceToNat, h1, h2]
      refine ⟨hK _ σ.n (σ.n + 1) _ (by omega) (by simp) ?_ (fun c x hc hx => by simp -implicitDefEqProofs (disch := first | omega | (simp only [St.set_n, St.up_n, List.length_cons, List.length_nil]; omega)) only [go_sem, Nat.reduceAdd, Nat.reduceMul, Nat.reduceSub, Int.reduceAdd, Int.reduceMul, Int.reduceSub, Int.reduceNeg, Int.reduceToNat, hx]) (.inr (by omega)), hK _ (σ.n + 1) σ.n _ (by omega) (by simp) ?_ (fun c x hc hx => by simp -implicitDefEqProofs (disch := first | omega | (simp only [St.set_n, St.up_n, List.length_cons, List.length_nil]; omega)) only [go_sem, Nat.reduceAdd, Nat.reduceMul, Nat.reduceSub, Int.reduceAdd, Int.reduceMul, Int.reduceSub, Int.reduceNeg, Int.reduceToNat, hx]) (.inr (by omega))⟩
      · rw [hg]
        refine .inr ⟨by omega, by omega, by omega, ?_, ?_, ?_⟩
        · simp -implicitDefEqProofs (disch := first | omega | (simp only [St.set_n, St.up_n, List.length_cons, List.length_nil]; omega)) only [go_sem, Nat.reduceAdd, Nat.reduceMul, Nat.reduceSub, Int.reduceAdd, Int.reduceMul, Int.reduceSub, Int.reduceNeg, Int.reduceToNat]; simp
        · simp -implicitDefEqProofs (disch := first | omega | (simp only [St.set_n, St.up_n, List.length_cons, List.length_nil]; omega)) only [go_sem, Nat.reduceAdd, Nat.reduceMul, Nat.reduceSub, Int.reduceAdd, Int.reduceMul, Int.reduceSub, Int.reduceNeg, Int.reduceToNat]; rw [hz1, zc_ints]
        · simp -implicitDefEqProofs (disch := first | omega | (simp only [St.set_n, St.up_n, List.length_cons, List.length_nil]; omega)) only [go_sem, Nat.reduceAdd, Nat.reduceMul, Nat.reduceSub, Int.reduceAdd, Int.reduceMul, Int.reduceSub, Int.reduceNeg, Int.reduceToNat]; rw [hz2, zc_ints]
      · rw [hg]
        refine .inr ⟨by omega, by omega, by omega, ?_, ?_, ?_⟩
        · simp -implicitDefEqProofs (disch := first | omega | (simp only [St.set_n, St.up_n, List.length_cons, List.length_nil]; omega)) only [go_sem, Nat.reduceAdd, Nat.reduceMul, Nat.reduceSub, Int.reduceAdd, Int.reduceMul, Int.reduceSub, Int.reduceNeg, Int.reduceToNat]; simp
        · simp -implicitDefEqProofs (disch := first | omega | (simp only [St.set_n, St.up_n, List.length_cons, List.length_nil]; omega)) only [go_sem, Nat.reduceAdd, Nat.reduceMul, Nat.reduceSub, Int.reduceAdd, Int.reduceMul, Int.reduceSub, Int.reduceNeg, Int.reduceToNat]; rw [hz1, zc_ints]
        · simp -implicitDefEqProofs (disch := first | omega | (simp only [St.set_n, St.up_n, List.length_cons, List.length_nil]; omega)) only [go_sem, Nat.reduceAdd, Nat.reduceMul, Nat.reduceSub, Int.reduceAdd, Int.reduceMul, Int.reduceSub, Int.reduceNeg, Int.reduceToNat]; rw [hz2, zc_ints]

theorem same_ints {l l' : List Int} {v v' : Value} (hbd : l.length < 4611686018427387904) (h : Own σ 3 1 (ints l) l.length v) (h' : Own σ 3 1 (ints l') l'.length v') (hK : K (.bool (decide (l = l'))) σ) : Fn Try.prog B 59 #[v, v'] σ K := by
  obtain ⟨a, cap, rfl, hc⟩ := h.is
  obtain ⟨a', cap', rfl, hc'⟩ := h'.is
  have hat : ∀ i x, l[i]? = some x → ∃ b, a = some ⟨b, 0, none⟩ ∧ ∃ c : Array Value, σ.m b = some (.raw (.cells c 3 (0, 0))) ∧ c[i]? = some (Value.int .i64 x) := fun i x hx => by
    obtain ⟨_, ⟨h2, h3⟩ | ⟨b, cap, sp, h2, _, h3, _⟩⟩ := h
    · rw [h3] at hc; have := (List.getElem?_eq_some_iff.1 hx).1; omega
    · cases h2; exact ⟨b, rfl, _, h3, by rw [List.getElem?_toArray]; exact ints_get hx sp⟩
  have hat' : ∀ i x, l'[i]? = some x → ∃ b, a' = some ⟨b, 0, none⟩ ∧ ∃ c : Array Value, σ.m b = some (.raw (.cells c 3 (0, 0))) ∧ c[i]? = some (Value.int .i64 x) := fun i x hx => by
    obtain ⟨_, ⟨h2, h3⟩ | ⟨b, cap, sp, h2, _, h3, _⟩⟩ := h'
    · rw [h3] at hc'; have := (List.getElem?_eq_some_iff.1 hx).1; omega
    · cases h2; exact ⟨b, rfl, _, h3, by rw [List.getElem?_toArray]; exact ints_get hx sp⟩
  refine Fn.of is59 (by simp) fun hwf => ?_
  simp only [b59, Try.f59, Option.getD_some]
  simp -implicitDefEqProofs (disch := first | omega | (simp only [St.set_n, St.up_n, List.length_cons, List.length_nil]; omega)) only [go_sem, Nat.reduceAdd, Nat.reduceMul, Nat.reduceSub, Int.reduceAdd, Int.reduceMul, Int.reduceSub, Int.reduceNeg, Int.reduceToNat]
  by_cases hll : l.length = l'.length
  · have hll' : (l.length : Int) = l'.length := by omega
    simp -implicitDefEqProofs (disch := first | omega | (simp only [St.set_n, St.up_n, List.length_cons, List.length_nil]; omega)) only [go_sem, Nat.reduceAdd, Nat.reduceMul, Nat.reduceSub, Int.reduceAdd, Int.reduceMul, Int.reduceSub, Int.reduceNeg, Int.reduceToNat, hll']
    refine loop_rule (fun m e s => ∃ i : Nat, m = l.length - i ∧ i ≤ l.length ∧ e.v 0 = .slice a l.length cap ∧ e.v 1 = .slice a' l'.length cap' ∧ e.v 5 = .int .i64 i ∧ e.d = [] ∧ s = σ ∧ ∀ j, j < i → l[j]? = l'[j]?) l.length ?_ ?_
    · refine ⟨0, by omega, by omega, ?_⟩
      simp -implicitDefEqProofs (disch := first | omega | (simp only [St.set_n, St.up_n, List.length_cons, List.length_nil]; omega)) only [go_sem, Nat.reduceAdd, Nat.reduceMul, Nat.reduceSub, Int.reduceAdd, Int.reduceMul, Int.reduceSub, Int.reduceNeg, Int.reduceToNat]
      simp
    · rintro m e s hws ⟨i, hm, hi, h0, h1, h5, hd, rfl, hall⟩
      simp -implicitDefEqProofs (disch := first | omega | (simp only [St.set_n, St.up_n, List.length_cons, List.length_nil]; omega)) only [go_sem, Nat.reduceAdd, Nat.reduceMul, Nat.reduceSub, Int.reduceAdd, Int.reduceMul, Int.reduceSub, Int.reduceNeg, Int.reduceToNat, h0, h1, h5]
      by_cases hlt : (i : Int) < l.length
      · obtain ⟨x, hx⟩ : ∃ x, l[i]? = some x := ⟨l[i]'(by omega), List.getElem?_eq_getElem (by omega)⟩
        obtain ⟨y, hy⟩ : ∃ x, l'[i]? = some x := ⟨l'[i]'(by omega), List.getElem?_eq_getElem (by omega)⟩
        obtain ⟨b, rfl, c, hm1, hm2⟩ := hat i x hx
        obtain ⟨b', rfl, c', hm1', hm2'⟩ := hat' i y hy
        have hlt' : (i : Int) < l'.length := by omega
        simp -implicitDefEqProofs (disch := first | omega | (simp only [St.set_n, St.up_n, List.length_cons, List.length_nil]; omega)) only [go_sem, Nat.reduceAdd, Nat.reduceMul, Nat.reduceSub, Int.reduceAdd, Int.reduceMul, Int.reduceSub, Int.reduceNeg, Int.reduceToNat, h0, h1, h5, hlt, hlt', hm1, hm2, hm1', hm2']
        by_cases hxy : x = y
        · simp -implicitDefEqProofs (disch := first | omega | (simp only [St.set_n, St.up_n, List.length_cons, List.length_nil]; omega)) only [go_sem, Nat.reduceAdd, Nat.reduceMul, Nat.reduceSub, Int.reduceAdd, Int.reduceMul, Int.reduceSub, Int.reduceNeg, Int.reduceToNat, hxy, h0, h1, h5]
          refine ⟨l.length - (i + 1), by omega, i + 1, rfl, by omega, ?_⟩
          simp -implicitDefEqProofs (disch := first | omega | (simp only [St.set_n, St.up_n, List.length_cons, List.length_nil]; omega)) only [go_sem, Nat.reduceAdd, Nat.reduceMul, Nat.reduceSub, Int.reduceAdd, Int.reduceMul, Int.reduceSub, Int.reduceNeg, Int.reduceToNat, h0, h1, h5, hd]
          simp only [Int.natCast_add, Int.cast_ofNat_Int, true_and]
          intro j hj
          by_cases hji : j = i
          · subst hji; rw [hx, hy, hxy]
          · exact hall j (by omega)
        · simp -implicitDefEqProofs (disch := first | omega | (simp only [St.set_n, St.up_n, List.length_cons, List.length_nil]; omega)) only [go_sem, Nat.reduceAdd, Nat.reduceMul, Nat.reduceSub, Int.reduceAdd, Int.reduceMul, Int.reduceSub, Int.reduceNeg, Int.reduceToNat, hxy, hd]
          have : ¬ l = l' := fun h => hxy (by rw [h, hy] at hx; exact (Option.some.inj hx).symm)
          simpa [this] using hK
      · simp -implicitDefEqProofs (disch := first | omega | (simp only [St.set_n, St.up_n, List.length_cons, List.length_nil]; omega)) only [go_sem, Nat.reduceAdd, Nat.reduceMul, Nat.reduceSub, Int.reduceAdd, Int.reduceMul, Int.reduceSub, Int.reduceNeg, Int.reduceToNat, h0, h1, h5, hlt, hd]
        have : l = l' := List.ext_getElem? fun j => by
          by_cases hj : j < i
          · exact hall j hj
          · rw [List.getElem?_eq_none (by omega), List.getElem?_eq_none (by omega)]
        simpa [this] using hK
  · have hll' : ¬ (l.length : Int) = l'.length := by omega
    simp -implicitDefEqProofs (disch := first | omega | (simp only [St.set_n, St.up_n, List.length_cons, List.length_nil]; omega)) only [go_sem, Nat.reduceAdd, Nat.reduceMul, Nat.reduceSub, Int.reduceAdd, Int.reduceMul, Int.reduceSub, Int.reduceNeg, Int.reduceToNat, hll']
    have : ¬ l = l' := fun h => hll (by rw [h])
    simpa [this] using hK
end
end Go.Proofs.Ytbjgoajdfdonfaa
