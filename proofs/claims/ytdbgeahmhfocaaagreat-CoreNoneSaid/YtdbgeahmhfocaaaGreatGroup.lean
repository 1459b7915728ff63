/- Groups of locks, and the document's own: contracts, by walks. -/
import Derived.Test.YtdbgeahmhfocaaaGreatLock
import Derived.Test.YtdbgeahmhfocaaaGreatEngU
namespace Go.Proofs.YtdbgeahmhfocaaaGreat
set_option linter.unusedSimpArgs false
set_option linter.unusedVariables false
open Go Go.RowKit
section
variable {B : World} {σ : St} {K : Value → St → Prop}

/-- A lock: who holds it, how often its cell was used, how often it was held. -/
abbrev Lk := Int × Int × Int
def fLk (x : Lk) : List Value := [.int .i64 x.1, .int .i64 x.2.1, .int .i64 x.2.2]
def fI (x : Int) : List Value := [.int .i64 x]
theorem fLk_len (x : Lk) : (fLk x).length = 3 := rfl
theorem fI_len (x : Int) : (fI x).length = 1 := rfl
def tryT (x : Lk) (u : Int) : Lk := if u < 1 then x else if x.1 = 0 then (u, IntKind.i64.wrap (x.2.1 + 1), IntKind.i64.wrap (x.2.2 + 1)) else (x.1, IntKind.i64.wrap (x.2.1 + 1), x.2.2)
def freeT (x : Lk) (u : Int) : Lk := if u < 1 then x else if x.1 = u then (0, IntKind.i64.wrap (x.2.1 + 1), x.2.2) else (x.1, IntKind.i64.wrap (x.2.1 + 1), x.2.2)

theorem toA_set (l : List Value) (i : Nat) (v : Value) : l.toArray.setIfInBounds i v = (l.set i v).toArray := by simp
theorem set_one {L : List Lk} {i : Nat} {x : Lk} (h : L[i]? = some x) (n : Int) : (flat fLk L).set (i * 3 + 1) (.int .i64 n) = flat fLk (L.set i (x.1, n, x.2.2)) := by
  have := flat_set fLk_len L [] i x (x.1, n, x.2.2) 1 (.int .i64 n) h (by omega) rfl
  simpa using this
theorem set_zero {L : List Lk} {i : Nat} {x : Lk} (h : L[i]? = some x) (n : Int) : (flat fLk L).set (i * 3) (.int .i64 n) = flat fLk (L.set i (n, x.2.1, x.2.2)) := by
  have := flat_set fLk_len L [] i x (n, x.2.1, x.2.2) 0 (.int .i64 n) h (by omega) rfl
  simpa using this
theorem set_two {L : List Lk} {i : Nat} {x : Lk} (h : L[i]? = some x) (n : Int) : (flat fLk L).set (i * 3 + 2) (.int .i64 n) = flat fLk (L.set i (x.1, x.2.1, n)) := by
  have := flat_set fLk_len L [] i x (x.1, x.2.1, n) 2 (.int .i64 n) h (by omega) rfl
  simpa using this
theorem get_set {L : List Lk} {i : Nat} {x y : Lk} (h : L[i]? = some x) : (L.set i y)[i]? = some y := by
  have := (List.getElem?_eq_some_iff.1 h).1
  simp [this]
theorem tryC_flat {L : List Lk} {i : Nat} {x : Lk} (h : L[i]? = some x) (u : Int) : tryC (flat fLk L).toArray (i * 3) x.1 x.2.1 x.2.2 u = (flat fLk (L.set i (tryT x u))).toArray := by
  unfold tryC tryT
  by_cases h1 : u < 1
  · simp only [h1, if_true]
    have : L.set i x = L := by
      obtain ⟨hl, hx⟩ := List.getElem?_eq_some_iff.1 h
      rw [← hx]; simp
    rw [this]
  · by_cases h0 : x.1 = 0
    · simp only [h1, h0, if_true, if_false, toA_set]
      rw [set_one h, set_zero (get_set h), set_two (get_set (get_set h))]
      simp
    · simp only [h1, h0, if_false, toA_set]
      rw [set_one h]
theorem freeC_flat {L : List Lk} {i : Nat} {x : Lk} (h : L[i]? = some x) (u : Int) : freeC (flat fLk L).toArray (i * 3) x.1 x.2.1 u = (flat fLk (L.set i (freeT x u))).toArray := by
  unfold freeC freeT
  by_cases h1 : u < 1
  · simp only [h1, if_true]
    have : L.set i x = L := by
      obtain ⟨hl, hx⟩ := List.getElem?_eq_some_iff.1 h
      rw [← hx]; simp
    rw [this]
  · by_cases h0 : x.1 = u
    · simp only [h1, h0, if_true, if_false, toA_set]
      rw [set_one h, set_zero (get_set h)]
      simp
    · simp only [h1, h0, if_false, toA_set]
      rw [set_one h]

/-- A group in memory: its struct at 'g', its locks at 'b' (if it has any). -/
def IsGroup (σ : St) (g b : Nat) (L : List Lk) : Prop :=
  (L = [] ∧ σ.m g = some (.raw (.cells #[.slice none 0 0] 138 (0, 0)))) ∨
  (σ.m g = some (.raw (.cells #[.slice (some ⟨b, 0, none⟩) L.length L.length] 138 (0, 0))) ∧ σ.m b = some (.raw (.cells (flat fLk L).toArray 168 (0, 0))))
theorem lk_cells {L : List Lk} {i : Nat} {x : Lk} (h : L[i]? = some x) :
    (flat fLk L).toArray[i * 3]? = some (.int .i64 x.1) ∧ (flat fLk L).toArray[i * 3 + 1]? = some (.int .i64 x.2.1) ∧ (flat fLk L).toArray[i * 3 + 2]? = some (.int .i64 x.2.2) := by
  have h0 := flat_get fLk_len L [] i x 0 _ h rfl
  have h1 := flat_get fLk_len L [] i x 1 _ h rfl
  have h2 := flat_get fLk_len L [] i x 2 _ h rfl
  simp only [List.append_nil, Nat.add_zero] at h0 h1 h2
  simp [h0, h1, h2]

theorem group_len {g b : Nat} {L : List Lk} (hg : IsGroup σ g b L) (hK : K (.int .i64 L.length) σ) : Fn Tryz.prog B 50 #[.pointer (some ⟨g, 0, none⟩)] σ K := by
  refine Fn.of is50 (by simp) fun hwf => ?_
  simp only [b50, Tryz.f50, Option.getD_some]
  rcases hg with ⟨rfl, hg⟩ | ⟨hg, _⟩
  · simp -implicitDefEqProofs (disch := first | omega | (simp only [St.set_n, St.up_n, List.length_cons, List.length_nil]; omega)) only [go_sem, Nat.reduceAdd, Nat.reduceMul, Nat.reduceSub, Int.reduceAdd, Int.reduceMul, Int.reduceSub, Int.reduceNeg, Int.reduceToNat, hg]
    exact hK
  · simp -implicitDefEqProofs (disch := first | omega | (simp only [St.set_n, St.up_n, List.length_cons, List.length_nil]; omega)) only [go_sem, Nat.reduceAdd, Nat.reduceMul, Nat.reduceSub, Int.reduceAdd, Int.reduceMul, Int.reduceSub, Int.reduceNeg, Int.reduceToNat, hg]
    exact hK
theorem group_at {g b : Nat} {L : List Lk} (hg : IsGroup σ g b L) {i : Nat} (hi : i < L.length) (hK : K (.pointer (some ⟨b, i * 3, none⟩)) σ) : Fn Tryz.prog B 51 #[.pointer (some ⟨g, 0, none⟩), .int .i64 i] σ K := by
  refine Fn.of is51 (by simp) fun hwf => ?_
  simp only [b51, Tryz.f51, Option.getD_some]
  rcases hg with ⟨rfl, hg⟩ | ⟨hg, _⟩
  · simp at hi
  · simp -implicitDefEqProofs (disch := first | omega | (simp only [St.set_n, St.up_n, List.length_cons, List.length_nil]; omega)) only [go_sem, Nat.reduceAdd, Nat.reduceMul, Nat.reduceSub, Int.reduceAdd, Int.reduceMul, Int.reduceSub, Int.reduceNeg, Int.reduceToNat, hg]
    exact hK
theorem group_at_none {g b : Nat} {L : List Lk} (hg : IsGroup σ g b L) {i : Int} (hi : ¬ (0 ≤ i ∧ i < L.length)) (hK : K (.pointer none) σ) : Fn Tryz.prog B 51 #[.pointer (some ⟨g, 0, none⟩), .int .i64 i] σ K := by
  refine Fn.of is51 (by simp) fun hwf => ?_
  simp only [b51, Tryz.f51, Option.getD_some]
  by_cases h0 : i < 0
  · simp -implicitDefEqProofs (disch := first | omega | (simp only [St.set_n, St.up_n, List.length_cons, List.length_nil]; omega)) only [go_sem, Nat.reduceAdd, Nat.reduceMul, Nat.reduceSub, Int.reduceAdd, Int.reduceMul, Int.reduceSub, Int.reduceNeg, Int.reduceToNat, h0]
    exact hK
  · have h1 : (L.length : Int) ≤ i := by omega
    rcases hg with ⟨rfl, hg⟩ | ⟨hg, _⟩
    · have h2 : (0 : Int) ≤ i := by omega
      simp -implicitDefEqProofs (disch := first | omega | (simp only [St.set_n, St.up_n, List.length_cons, List.length_nil]; omega)) only [go_sem, Nat.reduceAdd, Nat.reduceMul, Nat.reduceSub, Int.reduceAdd, Int.reduceMul, Int.reduceSub, Int.reduceNeg, Int.reduceToNat, hg, h0, h2]
      exact hK
    · simp -implicitDefEqProofs (disch := first | omega | (simp only [St.set_n, St.up_n, List.length_cons, List.length_nil]; omega)) only [go_sem, Nat.reduceAdd, Nat.reduceMul, Nat.reduceSub, Int.reduceAdd, Int.reduceMul, Int.reduceSub, Int.reduceNeg, Int.reduceToNat, hg, h0, h1]
      exact hK
theorem zc_flat {z : Value} (h : z.cells = #[.int .i64 0, .int .i64 0, .int .i64 0]) : ∀ n : Nat, zc z (n * 3) = (flat fLk (List.replicate n (0, 0, 0))).toArray := by
  intro n
  have hl : (zc z (n * 3)).size = n * 3 := by simp [zc, zcells]
  apply Array.ext
  · rw [hl]; simp [flat_length fLk_len]
  · intro i h1 h2
    rw [hl] at h1
    have hi : i = i / 3 * 3 + i % 3 := by omega
    have hq : i / 3 < n := by omega
    have hL : (List.replicate n ((0, 0, 0) : Lk))[i / 3]? = some (0, 0, 0) := by simp [hq]
    have e1 : (zc z (n * 3))[i]? = some (.int .i64 0) := by
      simp only [zc, zcells, h, Array.getElem?_map]
      rw [Array.getElem?_range]
      simp only [h1, if_true, Option.map_some, List.size_toArray, List.length_cons, List.length_nil]
      have : i % 3 = 0 ∨ i % 3 = 1 ∨ i % 3 = 2 := by omega
      rcases this with h3 | h3 | h3 <;> simp [h3]
    have e2 : (flat fLk (List.replicate n (0, 0, 0))).toArray[i]? = some (.int .i64 0) := by
      have h3 : i % 3 = 0 ∨ i % 3 = 1 ∨ i % 3 = 2 := by omega
      have := flat_get fLk_len (List.replicate n (0, 0, 0)) [] (i / 3) (0, 0, 0) (i % 3) (.int .i64 0) hL (by rcases h3 with h3 | h3 | h3 <;> simp [h3, fLk])
      rw [← hi] at this
      simpa using this
    rw [Array.getElem?_eq_getElem (by rw [hl]; exact h1)] at e1
    rw [Array.getElem?_eq_getElem h2] at e2
    exact Option.some.inj (e1.trans e2.symm)
/-- How many locks a group of 'n' has. -/
def groupN (n : Int) : Nat := if 1 ≤ n ∧ n ≤ 1024 then n.toNat else 0
theorem locks {n : Int} (hK : ∀ k τ, σ.n ≤ k → k < τ.n → IsGroup τ k σ.n (List.replicate (groupN n) (0, 0, 0)) → (∀ c x, c < σ.n → σ.m c = some x → τ.m c = some x) → (groupN n = 0 ∨ σ.n ≠ k) → K (.pointer (some ⟨k, 0, none⟩)) τ) : Fn Tryz.prog B 25 #[.int .i64 n] σ K := by
  refine Fn.of is25 (by simp) fun hwf => ?_
  simp only [b25, Tryz.f25, Option.getD_some]
  by_cases h1 : n < 1
  · simp -implicitDefEqProofs (disch := first | omega | (simp only [St.set_n, St.up_n, List.length_cons, List.length_nil]; omega)) only [go_sem, Nat.reduceAdd, Nat.reduceMul, Nat.reduceSub, Int.reduceAdd, Int.reduceMul, Int.reduceSub, Int.reduceNeg, Int.reduceToNat, h1]
    have hg : groupN n = 0 := by unfold groupN; rw [if_neg (by omega)]
    refine hK _ _ (Nat.le_refl _) (by simp) ?_ (fun c x hc hx => by simp -implicitDefEqProofs (disch := first | omega | (simp only [St.set_n, St.up_n, List.length_cons, List.length_nil]; omega)) only [go_sem, Nat.reduceAdd, Nat.reduceMul, Nat.reduceSub, Int.reduceAdd, Int.reduceMul, Int.reduceSub, Int.reduceNeg, Int.reduceToNat, hx]) (.inl hg)
    rw [hg]
    exact .inl ⟨rfl, by simp -implicitDefEqProofs (disch := first | omega | (simp only [St.set_n, St.up_n, List.length_cons, List.length_nil]; omega)) only [go_sem, Nat.reduceAdd, Nat.reduceMul, Nat.reduceSub, Int.reduceAdd, Int.reduceMul, Int.reduceSub, Int.reduceNeg, Int.reduceToNat]⟩
  · by_cases h2 : n > 1024
    · simp -implicitDefEqProofs (disch := first | omega | (simp only [St.set_n, St.up_n, List.length_cons, List.length_nil]; omega)) only [go_sem, Nat.reduceAdd, Nat.reduceMul, Nat.reduceSub, Int.reduceAdd, Int.reduceMul, Int.reduceSub, Int.reduceNeg, Int.reduceToNat, h1, h2]
      have hg : groupN n = 0 := by unfold groupN; rw [if_neg (by omega)]
      refine hK _ _ (Nat.le_refl _) (by simp) ?_ (fun c x hc hx => by simp -implicitDefEqProofs (disch := first | omega | (simp only [St.set_n, St.up_n, List.length_cons, List.length_nil]; omega)) only [go_sem, Nat.reduceAdd, Nat.reduceMul, Nat.reduceSub, Int.reduceAdd, Int.reduceMul, Int.reduceSub, Int.reduceNeg, Int.reduceToNat, hx]) (.inl hg)
      rw [hg]
      exact .inl ⟨rfl, by simp -implicitDefEqProofs (disch := first | omega | (simp only [St.set_n, St.up_n, List.length_cons, List.length_nil]; omega)) only [go_sem, Nat.reduceAdd, Nat.reduceMul, Nat.reduceSub, Int.reduceAdd, Int.reduceMul, Int.reduceSub, Int.reduceNeg, Int.reduceToNat]⟩
    · simp -implicitDefEqProofs (disch := first | omega | (simp only [St.set_n, St.up_n, List.length_cons, List.length_nil]; omega)) only [go_sem, Nat.reduceAdd, Nat.reduceMul, Nat.reduceSub, Int.reduceAdd, Int.reduceMul, Int.reduceSub, Int.reduceNeg, Int.reduceToNat, h1, h2]
      have hg : groupN n = n.toNat := by unfold groupN; rw [if_pos (by omega)]
      refine hK _ _ (by omega) (by simp) ?_ (fun c x hc hx => by simp -implicitDefEqProofs (disch := first | omega | (simp only [St.set_n, St.up_n, List.length_cons, List.length_nil]; omega)) only [go_sem, Nat.reduceAdd, Nat.reduceMul, Nat.reduceSub, Int.reduceAdd, Int.reduceMul, Int.reduceSub, Int.reduceNeg, Int.reduceToNat, hx]) (.inr (by omega))
      rw [hg]
      refine .inr ⟨?_, ?_⟩
      · simp -implicitDefEqProofs (disch := first | omega | (simp only [St.set_n, St.up_n, List.length_cons, List.length_nil]; omega)) only [go_sem, Nat.reduceAdd, Nat.reduceMul, Nat.reduceSub, Int.reduceAdd, Int.reduceMul, Int.reduceSub, Int.reduceNeg, Int.reduceToNat]
        simp
      · simp -implicitDefEqProofs (disch := first | omega | (simp only [St.set_n, St.up_n, List.length_cons, List.length_nil]; omega)) only [go_sem, Nat.reduceAdd, Nat.reduceMul, Nat.reduceSub, Int.reduceAdd, Int.reduceMul, Int.reduceSub, Int.reduceNeg, Int.reduceToNat]
        rw [zc_flat rfl]
end
end Go.Proofs.YtdbgeahmhfocaaaGreat
