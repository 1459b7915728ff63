/- 'LockPlays': the walk. -/
import Derived.Test.YtbjgoajdfdonfaaRef05b
import Derived.Test.YtbjgoajdfdonfaaOne05
namespace Go.Proofs.Ytbjgoajdfdonfaa
set_option linter.unusedSimpArgs false
set_option linter.unusedVariables false
open Go Go.RowKit
section
variable {B : World} {σ : St} {K : Value → St → Prop}

theorem ref_held {r o c : Nat} {L : List Lk} {u : Int} (hr : IsRef σ r o c L) (hL : L.length ≤ 1024)
    (hK : ∀ v τ, Own τ 3 1 (ints (held L u)) (held L u).length v → (∀ c, blk v = some c → σ.n ≤ c) → (∀ c x, c < σ.n → σ.m c = some x → τ.m c = some x) → σ.n ≤ τ.n → K v τ) : Fn Try.prog B 66 #[.pointer (some ⟨r, 0, none⟩), .int .i64 u] σ K := by
  obtain ⟨a, cap, a', cap', hrr⟩ := ref_len hr
  refine Fn.of is66 (by simp) fun hwf => ?_
  have hrn := (hwf.2 _ _ hrr).2
  simp only [b66, Try.f66, Option.getD_some]
  simp -implicitDefEqProofs (disch := first | omega | (simp only [St.set_n, St.up_n, List.length_cons, List.length_nil]; omega)) only [go_sem, Nat.reduceAdd, Nat.reduceMul, Nat.reduceSub, Int.reduceAdd, Int.reduceMul, Int.reduceSub, Int.reduceNeg, Int.reduceToNat]
  refine loop_rule' (fun m e s => ∃ (i : Nat) (v : Value), m = L.length - i ∧ i ≤ L.length ∧ e.v 0 = .pointer (some ⟨r, 0, none⟩) ∧ e.v 1 = .int .i64 u ∧ e.v 5 = v ∧ e.v 6 = .int .i64 i ∧ e.d = [] ∧
    Own s 3 1 (ints (if 1 ≤ u then heldTo L u i else [])) (if 1 ≤ u then heldTo L u i else []).length v ∧ (∀ c, blk v = some c → σ.n ≤ c) ∧ (∀ c x, c < σ.n → σ.m c = some x → s.m c = some x) ∧ σ.n ≤ s.n) L.length 0
    (fun e s => ∃ v, e.v 5 = v ∧ e.d = [] ∧ Own s 3 1 (ints (held L u)) (held L u).length v ∧ (∀ c, blk v = some c → σ.n ≤ c) ∧ (∀ c x, c < σ.n → σ.m c = some x → s.m c = some x) ∧ σ.n ≤ s.n) ?_ ?_ ?_
  · refine ⟨0, .slice none 0 0, by omega, by omega, ?_⟩
    simp -implicitDefEqProofs (disch := first | omega | (simp only [St.set_n, St.up_n, List.length_cons, List.length_nil]; omega)) only [go_sem, Nat.reduceAdd, Nat.reduceMul, Nat.reduceSub, Int.reduceAdd, Int.reduceMul, Int.reduceSub, Int.reduceNeg, Int.reduceToNat]
    have : (if 1 ≤ u then heldTo L u 0 else []) = [] := by split <;> rfl
    rw [this]
    exact ⟨rfl, Own.nil, fun c hc => (by cases hc), fun c x _ h => h, Nat.le_refl _⟩
  · rintro m e s hws ⟨i, v, hm, hi, h0, h1, h5, h6, hd, hown, hbv, hσ, hn⟩
    have hrs := hσ _ _ hrn hrr
    simp -implicitDefEqProofs (disch := first | omega | (simp only [St.set_n, St.up_n, List.length_cons, List.length_nil]; omega)) only [go_sem, Nat.reduceAdd, Nat.reduceMul, Nat.reduceSub, Int.reduceAdd, Int.reduceMul, Int.reduceSub, Int.reduceNeg, Int.reduceToNat, h0, h1, h5, h6, hrs]
    by_cases hlt : (i : Int) < L.length
    · by_cases hu : 1 ≤ u
      · obtain ⟨x, hx⟩ : ∃ x, L[i]? = some x := ⟨L[i]'(by omega), List.getElem?_eq_getElem (by omega)⟩
        rcases hr with ⟨rfl, _⟩ | ⟨q1, q2, q3, q4, q5, q6⟩
        · simp at hlt; omega
        have e1 := hrr.symm.trans q4
        simp at e1
        obtain ⟨⟨rfl, rfl⟩, _⟩ := e1
        have q5s := hσ _ _ (hwf.2 _ _ q5).2 q5
        have hx1 := int_at (f := (·.1)) hx
        simp only [hu, if_true] at hown
        simp -implicitDefEqProofs (disch := first | omega | (simp only [St.set_n, St.up_n, List.length_cons, List.length_nil]; omega)) only [go_sem, Nat.reduceAdd, Nat.reduceMul, Nat.reduceSub, Int.reduceAdd, Int.reduceMul, Int.reduceSub, Int.reduceNeg, Int.reduceToNat, h0, h1, h5, h6, hlt, hu, hrs, q5s, hx1]
        have hstep : ∀ q : Prop, [Decidable q] → (q ↔ x.1 = u) → heldTo L u (i + 1) = heldTo L u i ++ (if q then [(i : Int)] else []) := fun q _ hq => by
          simp only [heldTo, hx, Option.map_some, Option.some.injEq, hq]
        by_cases hxu : x.1 = u
        · simp -implicitDefEqProofs (disch := first | omega | (simp only [St.set_n, St.up_n, List.length_cons, List.length_nil]; omega)) only [go_sem, Nat.reduceAdd, Nat.reduceMul, Nat.reduceSub, Int.reduceAdd, Int.reduceMul, Int.reduceSub, Int.reduceNeg, Int.reduceToNat, h0, h1, h5, h6, hxu]
          have hh := heldTo_len L u i
          refine appK_one (s := 1) (bts := 8) (ty := 3) (fz := (0, 0)) (ys := [.int .i64 i]) (cs := ints (heldTo L u i)) se43 kd43 zr3 rfl (by omega) (hown.keep fun c y hc hy => ?_) (by simp -implicitDefEqProofs (disch := first | omega | (simp only [St.set_n, St.up_n, List.length_cons, List.length_nil]; omega)) only [go_sem, Nat.reduceAdd, Nat.reduceMul, Nat.reduceSub, Int.reduceAdd, Int.reduceMul, Int.reduceSub, Int.reduceNeg, Int.reduceToNat]) rfl rfl (by omega) fun v' σ' hown' hbv' hfr hn' => ?_
          · have := (hws.2 c y hy).2
            simp -implicitDefEqProofs (disch := first | omega | (simp only [St.set_n, St.up_n, List.length_cons, List.length_nil]; omega)) only [go_sem, Nat.reduceAdd, Nat.reduceMul, Nat.reduceSub, Int.reduceAdd, Int.reduceMul, Int.reduceSub, Int.reduceNeg, Int.reduceToNat, hy]
          · simp -implicitDefEqProofs (disch := first | omega | (simp only [St.set_n, St.up_n, List.length_cons, List.length_nil]; omega)) only [go_sem, Nat.reduceAdd, Nat.reduceMul, Nat.reduceSub, Int.reduceAdd, Int.reduceMul, Int.reduceSub, Int.reduceNeg, Int.reduceToNat, h0, h1, h6, hd]
            refine ⟨L.length - (i + 1), by omega, i + 1, v', rfl, by omega, ?_⟩
            simp -implicitDefEqProofs (disch := first | omega | (simp only [St.set_n, St.up_n, List.length_cons, List.length_nil]; omega)) only [go_sem, Nat.reduceAdd, Nat.reduceMul, Nat.reduceSub, Int.reduceAdd, Int.reduceMul, Int.reduceSub, Int.reduceNeg, Int.reduceToNat, h0, h1, h6, hd]
            simp only [hu, if_true, hstep _ Iff.rfl, hxu, Int.natCast_add, Int.cast_ofNat_Int, true_and]
            have hge : ∀ c, blk v' = some c → σ.n ≤ c := fun c hc => by
              rcases hbv' c hc with h | h
              · rw [h]; simp -implicitDefEqProofs (disch := first | omega | (simp only [St.set_n, St.up_n, List.length_cons, List.length_nil]; omega)) only [go_sem, Nat.reduceAdd, Nat.reduceMul, Nat.reduceSub, Int.reduceAdd, Int.reduceMul, Int.reduceSub, Int.reduceNeg, Int.reduceToNat]; omega
              · exact hbv c h
            refine ⟨?_, hge, fun c y hc hy => ?_, by (try simp only [St.up_n, St.set_n] at hn'); omega⟩
            · have e1 : ints (heldTo L u i ++ [(i : Int)]) = ints (heldTo L u i) ++ [.int .i64 i] := by simp [ints]
              have e2 : (heldTo L u i ++ [(i : Int)]).length = (heldTo L u i).length + 1 := by simp
              rw [e1, e2]; exact hown'
            · rw [hfr c fun h => by have := hge c h; omega]
              have := hσ c y hc hy
              simp -implicitDefEqProofs (disch := first | omega | (simp only [St.set_n, St.up_n, List.length_cons, List.length_nil]; omega)) only [go_sem, Nat.reduceAdd, Nat.reduceMul, Nat.reduceSub, Int.reduceAdd, Int.reduceMul, Int.reduceSub, Int.reduceNeg, Int.reduceToNat, this]
        · simp -implicitDefEqProofs (disch := first | omega | (simp only [St.set_n, St.up_n, List.length_cons, List.length_nil]; omega)) only [go_sem, Nat.reduceAdd, Nat.reduceMul, Nat.reduceSub, Int.reduceAdd, Int.reduceMul, Int.reduceSub, Int.reduceNeg, Int.reduceToNat, h0, h1, h5, h6, hxu]
          refine ⟨L.length - (i + 1), by omega, i + 1, v, rfl, by omega, ?_⟩
          simp -implicitDefEqProofs (disch := first | omega | (simp only [St.set_n, St.up_n, List.length_cons, List.length_nil]; omega)) only [go_sem, Nat.reduceAdd, Nat.reduceMul, Nat.reduceSub, Int.reduceAdd, Int.reduceMul, Int.reduceSub, Int.reduceNeg, Int.reduceToNat, h0, h1, h5, h6, hd]
          simp only [hu, if_true, hstep _ Iff.rfl, hxu, if_false, List.append_nil, Int.natCast_add, Int.cast_ofNat_Int, true_and]
          exact ⟨hown, hbv, hσ, hn⟩
      · simp only [hu, if_false] at hown
        simp -implicitDefEqProofs (disch := first | omega | (simp only [St.set_n, St.up_n, List.length_cons, List.length_nil]; omega)) only [go_sem, Nat.reduceAdd, Nat.reduceMul, Nat.reduceSub, Int.reduceAdd, Int.reduceMul, Int.reduceSub, Int.reduceNeg, Int.reduceToNat, h0, h1, h5, h6, hlt, hu, hd]
        exact ⟨_, rfl, by simpa [held, hu] using hown, hbv, hσ, hn⟩
    · simp -implicitDefEqProofs (disch := first | omega | (simp only [St.set_n, St.up_n, List.length_cons, List.length_nil]; omega)) only [go_sem, Nat.reduceAdd, Nat.reduceMul, Nat.reduceSub, Int.reduceAdd, Int.reduceMul, Int.reduceSub, Int.reduceNeg, Int.reduceToNat, h0, h1, h5, h6, hlt, hd]
      have : i = L.length := by omega
      subst this
      exact ⟨_, rfl, by simpa [held] using hown, hbv, hσ, hn⟩
  · rintro e s hws ⟨v, h5, hd, hown, hbv, hσ, hn⟩
    simp -implicitDefEqProofs (disch := first | omega | (simp only [St.set_n, St.up_n, List.length_cons, List.length_nil]; omega)) only [go_sem, Nat.reduceAdd, Nat.reduceMul, Nat.reduceSub, Int.reduceAdd, Int.reduceMul, Int.reduceSub, Int.reduceNeg, Int.reduceToNat, h5, hd]
    exact hK _ _ hown hbv hσ hn
end
end Go.Proofs.Ytbjgoajdfdonfaa
