/- What a group, and the document's own, hold; the same numbers: contracts, by walks. -/
import Derived.Test.YtdbgeahmhfocaaaGroup
namespace Go.Proofs.Ytdbgeahmhfocaaa
set_option linter.unusedSimpArgs false
set_option linter.unusedVariables false
open Go Go.RowKit
section
variable {B : World} {σ : St} {K : Value → St → Prop}

/-- Which locks 'u' holds, of the first so many. -/
def heldTo (L : List Lk) (u : Int) : Nat → List Int
  | 0 => []
  | j + 1 => heldTo L u j ++ (if (L[j]?.map (·.1)) = some u then [(j : Int)] else [])
def held (L : List Lk) (u : Int) : List Int := if 1 ≤ u then heldTo L u L.length else []
theorem heldTo_len (L : List Lk) (u : Int) : ∀ j, (heldTo L u j).length ≤ j
  | 0 => by simp [heldTo]
  | j + 1 => by
    have := heldTo_len L u j
    simp only [heldTo, List.length_append]
    split <;> simp <;> omega

theorem group_held {g b : Nat} {L : List Lk} {u : Int} (hg : IsGroup σ g b L) (hL : L.length ≤ 1024)
    (hK : ∀ v τ, Own τ 3 1 (ints (held L u)) (held L u).length v → (∀ c, blk v = some c → σ.n ≤ c) → (∀ c x, c < σ.n → σ.m c = some x → τ.m c = some x) → σ.n ≤ τ.n → K v τ) : Fn Try.prog B 31 #[.pointer (some ⟨g, 0, none⟩), .int .i64 u] σ K := by
  refine Fn.of is31 (by simp) fun hwf => ?_
  simp only [b31, Try.f31, Option.getD_some]
  simp -implicitDefEqProofs (disch := first | omega | (simp only [St.set_n, St.up_n, List.length_cons, List.length_nil]; omega)) only [go_sem, Nat.reduceAdd, Nat.reduceMul, Nat.reduceSub, Int.reduceAdd, Int.reduceMul, Int.reduceSub, Int.reduceNeg, Int.reduceToNat]
  refine callF_of (group_len hg ?_)
  simp -implicitDefEqProofs (disch := first | omega | (simp only [St.set_n, St.up_n, List.length_cons, List.length_nil]; omega)) only [go_sem, Nat.reduceAdd, Nat.reduceMul, Nat.reduceSub, Int.reduceAdd, Int.reduceMul, Int.reduceSub, Int.reduceNeg, Int.reduceToNat]
  refine loop_rule (fun m e s => ∃ (i : Nat) (v : Value), m = L.length - i ∧ i ≤ L.length ∧ e.v 0 = .pointer (some ⟨g, 0, none⟩) ∧ e.v 1 = .int .i64 u ∧ e.v 5 = v ∧ e.v 8 = .int .i64 L.length ∧ e.v 9 = .int .i64 i ∧ e.d = [] ∧
    Own s 3 1 (ints (if 1 ≤ u then heldTo L u i else [])) (if 1 ≤ u then heldTo L u i else []).length v ∧ (∀ c, blk v = some c → σ.n ≤ c) ∧ (∀ c x, c < σ.n → σ.m c = some x → s.m c = some x) ∧ σ.n ≤ s.n) L.length ?_ ?_
  · refine ⟨0, .slice none 0 0, by omega, by omega, ?_⟩
    simp -implicitDefEqProofs (disch := first | omega | (simp only [St.set_n, St.up_n, List.length_cons, List.length_nil]; omega)) only [go_sem, Nat.reduceAdd, Nat.reduceMul, Nat.reduceSub, Int.reduceAdd, Int.reduceMul, Int.reduceSub, Int.reduceNeg, Int.reduceToNat]
    have : (if 1 ≤ u then heldTo L u 0 else []) = [] := by split <;> rfl
    rw [this]
    exact ⟨rfl, Own.nil, fun c hc => (by cases hc), fun c x _ h => h, Nat.le_refl _⟩
  · rintro m e s hws ⟨i, v, hm, hi, h0, h1, h5, h8, h9, hd, hown, hbv, hσ, hn⟩
    simp -implicitDefEqProofs (disch := first | omega | (simp only [St.set_n, St.up_n, List.length_cons, List.length_nil]; omega)) only [go_sem, Nat.reduceAdd, Nat.reduceMul, Nat.reduceSub, Int.reduceAdd, Int.reduceMul, Int.reduceSub, Int.reduceNeg, Int.reduceToNat, h0, h1, h5, h8, h9]
    by_cases hlt : (i : Int) < L.length
    · obtain ⟨x, hx⟩ : ∃ x, L[i]? = some x := ⟨L[i]'(by omega), List.getElem?_eq_getElem (by omega)⟩
      have hgb : g < σ.n ∧ (b < σ.n) := by
        rcases hg with ⟨rfl, _⟩ | ⟨h2, h3⟩
        · simp at hlt; omega
        · exact ⟨(hwf.2 _ _ h2).2, (hwf.2 _ _ h3).2⟩
      have hgs : IsGroup s g b L := by
        rcases hg with ⟨rfl, h2⟩ | ⟨h2, h3⟩
        · exact .inl ⟨rfl, hσ _ _ hgb.1 h2⟩
        · exact .inr ⟨hσ _ _ hgb.1 h2, hσ _ _ hgb.2 h3⟩
      have hmb : s.m b = some (.raw (.cells (flat fLk L).toArray 54 (0, 0))) := by
        rcases hgs with ⟨rfl, _⟩ | ⟨_, h3⟩
        · simp at hlt; omega
        · exact h3
      by_cases hu : 1 ≤ u
      · simp only [hu, if_true] at hown
        simp -implicitDefEqProofs (disch := first | omega | (simp only [St.set_n, St.up_n, List.length_cons, List.length_nil]; omega)) only [go_sem, Nat.reduceAdd, Nat.reduceMul, Nat.reduceSub, Int.reduceAdd, Int.reduceMul, Int.reduceSub, Int.reduceNeg, Int.reduceToNat, h0, h1, h5, h8, h9, hlt, hu]
        refine callF_of (group_at hgs (by omega) ?_)
        simp -implicitDefEqProofs (disch := first | omega | (simp only [St.set_n, St.up_n, List.length_cons, List.length_nil]; omega)) only [go_sem, Nat.reduceAdd, Nat.reduceMul, Nat.reduceSub, Int.reduceAdd, Int.reduceMul, Int.reduceSub, Int.reduceNeg, Int.reduceToNat, h0, h1, h5, h8, h9]
        refine callF_of (lock_owner hmb (lk_cells hx).1 ?_)
        simp -implicitDefEqProofs (disch := first | omega | (simp only [St.set_n, St.up_n, List.length_cons, List.length_nil]; omega)) only [go_sem, Nat.reduceAdd, Nat.reduceMul, Nat.reduceSub, Int.reduceAdd, Int.reduceMul, Int.reduceSub, Int.reduceNeg, Int.reduceToNat, h0, h1, h5, h8, h9]
        have hstep : ∀ q : Prop, [Decidable q] → (q ↔ x.1 = u) → heldTo L u (i + 1) = heldTo L u i ++ (if q then [(i : Int)] else []) := fun q _ hq => by
          simp only [heldTo, hx, Option.map_some, Option.some.injEq, hq]
        by_cases hxu : x.1 = u
        · simp -implicitDefEqProofs (disch := first | omega | (simp only [St.set_n, St.up_n, List.length_cons, List.length_nil]; omega)) only [go_sem, Nat.reduceAdd, Nat.reduceMul, Nat.reduceSub, Int.reduceAdd, Int.reduceMul, Int.reduceSub, Int.reduceNeg, Int.reduceToNat, h0, h1, h5, h8, h9, hxu]
          have hh := heldTo_len L u i
          refine appK_one (s := 1) (bts := 8) (ty := 3) (fz := (0, 0)) (ys := [.int .i64 i]) (cs := ints (heldTo L u i)) se22 kd22 zr3 rfl (by omega) (hown.keep fun c y hc hy => ?_) (by simp -implicitDefEqProofs (disch := first | omega | (simp only [St.set_n, St.up_n, List.length_cons, List.length_nil]; omega)) only [go_sem, Nat.reduceAdd, Nat.reduceMul, Nat.reduceSub, Int.reduceAdd, Int.reduceMul, Int.reduceSub, Int.reduceNeg, Int.reduceToNat]) rfl rfl (by omega) fun v' σ' hown' hbv' hfr hn' => ?_
          · have := (hws.2 c y hy).2
            simp -implicitDefEqProofs (disch := first | omega | (simp only [St.set_n, St.up_n, List.length_cons, List.length_nil]; omega)) only [go_sem, Nat.reduceAdd, Nat.reduceMul, Nat.reduceSub, Int.reduceAdd, Int.reduceMul, Int.reduceSub, Int.reduceNeg, Int.reduceToNat, hy]
          · simp -implicitDefEqProofs (disch := first | omega | (simp only [St.set_n, St.up_n, List.length_cons, List.length_nil]; omega)) only [go_sem, Nat.reduceAdd, Nat.reduceMul, Nat.reduceSub, Int.reduceAdd, Int.reduceMul, Int.reduceSub, Int.reduceNeg, Int.reduceToNat, h0, h1, h8, h9, hd]
            refine ⟨L.length - (i + 1), by omega, i + 1, v', rfl, by omega, ?_⟩
            simp -implicitDefEqProofs (disch := first | omega | (simp only [St.set_n, St.up_n, List.length_cons, List.length_nil]; omega)) only [go_sem, Nat.reduceAdd, Nat.reduceMul, Nat.reduceSub, Int.reduceAdd, Int.reduceMul, Int.reduceSub, Int.reduceNeg, Int.reduceToNat, h0, h1, h8, h9, hd]
            simp only [hu, if_true, hstep _ Iff.rfl, hxu, Int.natCast_add, Int.cast_ofNat_Int, true_and]
            have hge : ∀ c, blk v' = some c → σ.n ≤ c := fun c hc => by
              rcases hbv' c hc with h | h
              · rw [h]; simp -implicitDefEqProofs (disch := first | omega | (simp only [St.set_n, St.up_n, List.length_cons, List.length_nil]; omega)) only [go_sem, Nat.reduceAdd, Nat.reduceMul, Nat.reduceSub, Int.reduceAdd, Int.reduceMul, Int.reduceSub, Int.reduceNeg, Int.reduceToNat]; omega
              · exact hbv c h
            refine ⟨?_, hge, fun c y hc hy => ?_, by (try simp only [St.up_n, St.set_n] at hn'); omega⟩
            · have e1 : ints (heldTo L u i ++ [(i : Int)]) = ints (heldTo L u i) ++ [.int .i64 i] := by simp [ints]
              have e2 : (heldTo L u i ++ [(i : Int)]).length = (heldTo L u i).length + 1 := by simp
              rw [e1, e2]; exact hown'
            · rw [hfr c fun h => by have := hge c h; omega]
              have := hσ c y hc hy
              simp -implicitDefEqProofs (disch := first | omega | (simp only [St.set_n, St.up_n, List.length_cons, List.length_nil]; omega)) only [go_sem, Nat.reduceAdd, Nat.reduceMul, Nat.reduceSub, Int.reduceAdd, Int.reduceMul, Int.reduceSub, Int.reduceNeg, Int.reduceToNat, this]
        · simp -implicitDefEqProofs (disch := first | omega | (simp only [St.set_n, St.up_n, List.length_cons, List.length_nil]; omega)) only [go_sem, Nat.reduceAdd, Nat.reduceMul, Nat.reduceSub, Int.reduceAdd, Int.reduceMul, Int.reduceSub, Int.reduceNeg, Int.reduceToNat, h0, h1, h5, h8, h9, hxu]
          refine ⟨L.length - (i + 1), by omega, i + 1, v, rfl, by omega, ?_⟩
          simp -implicitDefEqProofs (disch := first | omega | (simp only [St.set_n, St.up_n, List.length_cons, List.length_nil]; omega)) only [go_sem, Nat.reduceAdd, Nat.reduceMul, Nat.reduceSub, Int.reduceAdd, Int.reduceMul, Int.reduceSub, Int.reduceNeg, Int.reduceToNat, h0, h1, h5, h8, h9, hd]
          simp only [hu, if_true, hstep _ Iff.rfl, hxu, if_false, List.append_nil, Int.natCast_add, Int.cast_ofNat_Int, true_and]
          exact ⟨hown, hbv, hσ, hn⟩
      · simp only [hu, if_false] at hown
        simp -implicitDefEqProofs (disch := first | omega | (simp only [St.set_n, St.up_n, List.length_cons, List.length_nil]; omega)) only [go_sem, Nat.reduceAdd, Nat.reduceMul, Nat.reduceSub, Int.reduceAdd, Int.reduceMul, Int.reduceSub, Int.reduceNeg, Int.reduceToNat, h0, h1, h5, h8, h9, hlt, hu]
        refine ⟨L.length - (i + 1), by omega, i + 1, v, rfl, by omega, ?_⟩
        simp -implicitDefEqProofs (disch := first | omega | (simp only [St.set_n, St.up_n, List.length_cons, List.length_nil]; omega)) only [go_sem, Nat.reduceAdd, Nat.reduceMul, Nat.reduceSub, Int.reduceAdd, Int.reduceMul, Int.reduceSub, Int.reduceNeg, Int.reduceToNat, h0, h1, h5, h8, h9, hd]
        simp only [hu, if_false, Int.natCast_add, Int.cast_ofNat_Int, true_and]
        exact ⟨hown, hbv, hσ, hn⟩
    · simp -implicitDefEqProofs (disch := first | omega | (simp only [St.set_n, St.up_n, List.length_cons, List.length_nil]; omega)) only [go_sem, Nat.reduceAdd, Nat.reduceMul, Nat.reduceSub, Int.reduceAdd, Int.reduceMul, Int.reduceSub, Int.reduceNeg, Int.reduceToNat, h0, h1, h5, h8, h9, hlt, hd]
      have : i = L.length := by omega
      subst this
      exact hK _ _ (by simpa [held] using hown) hbv hσ hn
end
end Go.Proofs.Ytdbgeahmhfocaaa
