/- The document's own groups: contracts, by walks. -/
import Derived.Test.YtbjgoajdfdonfaaGroup2
namespace Go.Proofs.Ytbjgoajdfdonfaa
set_option linter.unusedSimpArgs false
set_option linter.unusedVariables false
open Go Go.RowKit
section
variable {B : World} {σ : St} {K : Value → St → Prop}

attribute [go_sem] ints_len List.length_map List.length_set
/-- The document's own group in memory: who holds each lock at 'o', how often it was held at 'c'. -/
def IsRef (σ : St) (r o c : Nat) (L : List Lk) : Prop :=
  (L = [] ∧ σ.m r = some (.raw (.cells #[.slice none 0 0, .slice none 0 0] 95 (0, 0)))) ∨
  (o ≠ c ∧ r ≠ o ∧ r ≠ c ∧ σ.m r = some (.raw (.cells #[.slice (some ⟨o, 0, none⟩) L.length L.length, .slice (some ⟨c, 0, none⟩) L.length L.length] 95 (0, 0))) ∧
    σ.m o = some (.raw (.cells (ints (L.map (·.1))).toArray 3 (0, 0))) ∧ σ.m c = some (.raw (.cells (ints (L.map (·.2.2))).toArray 3 (0, 0))))
theorem int_at {α : Type} {f : α → Int} {L : List α} {i : Nat} {x : α} (h : L[i]? = some x) : (ints (L.map f)).toArray[i]? = some (.int .i64 (f x)) := by
  simp [ints, h]
theorem int_set {α : Type} {f : α → Int} {L : List α} (i : Nat) (x : α) : (ints (L.map f)).set i (.int .i64 (f x)) = ints ((L.set i x).map f) := by
  simp [ints, List.map_set]

theorem ref_len {r o c : Nat} {L : List Lk} (hr : IsRef σ r o c L) : ∃ a cap a' cap', σ.m r = some (.raw (.cells #[.slice a L.length cap, .slice a' L.length cap'] 95 (0, 0))) := by
  rcases hr with ⟨rfl, h⟩ | ⟨_, _, _, h, _⟩
  · exact ⟨_, _, _, _, h⟩
  · exact ⟨_, _, _, _, h⟩
theorem ref_there {r o c : Nat} {L : List Lk} (hr : IsRef σ r o c L) {i : Int} (hK : K (.bool (decide (0 ≤ i ∧ i < L.length))) σ) : Fn Try.prog B 63 #[.pointer (some ⟨r, 0, none⟩), .int .i64 i] σ K := by
  obtain ⟨a, cap, a', cap', h⟩ := ref_len hr
  refine Fn.of is63 (by simp) fun hwf => ?_
  simp only [b63, Try.f63, Option.getD_some]
  simp -implicitDefEqProofs (disch := first | omega | (simp only [St.set_n, St.up_n, List.length_cons, List.length_nil]; omega)) only [go_sem, Nat.reduceAdd, Nat.reduceMul, Nat.reduceSub, Int.reduceAdd, Int.reduceMul, Int.reduceSub, Int.reduceNeg, Int.reduceToNat]
  by_cases h0 : 0 ≤ i
  · simp -implicitDefEqProofs (disch := first | omega | (simp only [St.set_n, St.up_n, List.length_cons, List.length_nil]; omega)) only [go_sem, Nat.reduceAdd, Nat.reduceMul, Nat.reduceSub, Int.reduceAdd, Int.reduceMul, Int.reduceSub, Int.reduceNeg, Int.reduceToNat, h0, h]
    simpa [h0] using hK
  · simp -implicitDefEqProofs (disch := first | omega | (simp only [St.set_n, St.up_n, List.length_cons, List.length_nil]; omega)) only [go_sem, Nat.reduceAdd, Nat.reduceMul, Nat.reduceSub, Int.reduceAdd, Int.reduceMul, Int.reduceSub, Int.reduceNeg, Int.reduceToNat, h0]
    simpa [h0] using hK
theorem ref_free {r o c : Nat} {L : List Lk} (hr : IsRef σ r o c L) {i : Nat} {x : Lk} (hx : L[i]? = some x) {u : Int}
    (hK : ∀ τ, IsRef τ r o c (L.set i (freeT x u)) → τ.n = σ.n → (∀ b, b ≠ o → b ≠ c → τ.m b = σ.m b) → K (.int .i64 (freeE x.1 u)) τ) : Fn Try.prog B 64 #[.pointer (some ⟨r, 0, none⟩), .int .i64 i, .int .i64 u] σ K := by
  have hi := (List.getElem?_eq_some_iff.1 hx).1
  refine Fn.of is64 (by simp) fun hwf => ?_
  simp only [b64, Try.f64, Option.getD_some]
  simp -implicitDefEqProofs (disch := first | omega | (simp only [St.set_n, St.up_n, List.length_cons, List.length_nil]; omega)) only [go_sem, Nat.reduceAdd, Nat.reduceMul, Nat.reduceSub, Int.reduceAdd, Int.reduceMul, Int.reduceSub, Int.reduceNeg, Int.reduceToNat]
  refine callF_of (ref_there hr ?_)
  have hi' : (0 : Int) ≤ i ∧ (i : Int) < L.length := by omega
  have hi2 : (i : Int) < L.length := by omega
  simp -implicitDefEqProofs (disch := first | omega | (simp only [St.set_n, St.up_n, List.length_cons, List.length_nil]; omega)) only [go_sem, Nat.reduceAdd, Nat.reduceMul, Nat.reduceSub, Int.reduceAdd, Int.reduceMul, Int.reduceSub, Int.reduceNeg, Int.reduceToNat, hi']
  rcases hr with ⟨rfl, _⟩ | ⟨h1, h2, h3, h4, h5, h6⟩
  · simp at hx
  have e1 : ∀ y : Lk, y.2.2 = x.2.2 → (L.set i y).map (·.2.2) = L.map (·.2.2) := fun y hy => by
    rw [List.map_set, hy]
    apply List.ext_getElem?
    intro j
    by_cases hj : j = i
    · subst hj; rw [List.getElem?_set_self (by simpa using hi)]; simp [hx]
    · rw [List.getElem?_set_ne (Ne.symm hj)]
  have e2 : ∀ y : Lk, y.1 = x.1 → (L.set i y).map (·.1) = L.map (·.1) := fun y hy => by
    rw [List.map_set, hy]
    apply List.ext_getElem?
    intro j
    by_cases hj : j = i
    · subst hj; rw [List.getElem?_set_self (by simpa using hi)]; simp [hx]
    · rw [List.getElem?_set_ne (Ne.symm hj)]
  have hl : ∀ y : Lk, (L.set i y).length = L.length := fun y => by simp
  have keep : ∀ y : Lk, y.1 = x.1 → y.2.2 = x.2.2 → IsRef σ r o c (L.set i y) := fun y hy hy' => by
    refine .inr ⟨h1, h2, h3, ?_, ?_, ?_⟩
    · rw [hl]; exact h4
    · rw [e2 y hy]; exact h5
    · rw [e1 y hy']; exact h6
  by_cases hu : u < 1
  · simp -implicitDefEqProofs (disch := first | omega | (simp only [St.set_n, St.up_n, List.length_cons, List.length_nil]; omega)) only [go_sem, Nat.reduceAdd, Nat.reduceMul, Nat.reduceSub, Int.reduceAdd, Int.reduceMul, Int.reduceSub, Int.reduceNeg, Int.reduceToNat, hu]
    have := hK σ (keep _ (by simp [freeT, hu]) (by simp [freeT, hu])) rfl (fun _ _ _ => rfl)
    simpa [freeE, hu] using this
  · have hx1 := int_at (f := (·.1)) hx
    simp -implicitDefEqProofs (disch := first | omega | (simp only [St.set_n, St.up_n, List.length_cons, List.length_nil]; omega)) only [go_sem, Nat.reduceAdd, Nat.reduceMul, Nat.reduceSub, Int.reduceAdd, Int.reduceMul, Int.reduceSub, Int.reduceNeg, Int.reduceToNat, hu, h4, hi2, h5, hx1]
    by_cases hxu : x.1 = u
    · simp -implicitDefEqProofs (disch := first | omega | (simp only [St.set_n, St.up_n, List.length_cons, List.length_nil]; omega)) only [go_sem, Nat.reduceAdd, Nat.reduceMul, Nat.reduceSub, Int.reduceAdd, Int.reduceMul, Int.reduceSub, Int.reduceNeg, Int.reduceToNat, hxu, h4, hi2, h5]
      have := hK (σ.set o (.raw (.cells (ints ((L.set i (freeT x u)).map (·.1))).toArray 3 (0, 0)))) (.inr ⟨h1, h2, h3, by simp -implicitDefEqProofs (disch := first | omega | (simp only [St.set_n, St.up_n, List.length_cons, List.length_nil]; omega)) only [go_sem, Nat.reduceAdd, Nat.reduceMul, Nat.reduceSub, Int.reduceAdd, Int.reduceMul, Int.reduceSub, Int.reduceNeg, Int.reduceToNat, h4, hl], by simp -implicitDefEqProofs (disch := first | omega | (simp only [St.set_n, St.up_n, List.length_cons, List.length_nil]; omega)) only [go_sem, Nat.reduceAdd, Nat.reduceMul, Nat.reduceSub, Int.reduceAdd, Int.reduceMul, Int.reduceSub, Int.reduceNeg, Int.reduceToNat], by simp -implicitDefEqProofs (disch := first | omega | (simp only [St.set_n, St.up_n, List.length_cons, List.length_nil]; omega)) only [go_sem, Nat.reduceAdd, Nat.reduceMul, Nat.reduceSub, Int.reduceAdd, Int.reduceMul, Int.reduceSub, Int.reduceNeg, Int.reduceToNat, h6, e1 (freeT x u) (by simp [freeT, hu]; split <;> rfl)]⟩) rfl (fun b hb _ => by simp -implicitDefEqProofs (disch := first | omega | (simp only [St.set_n, St.up_n, List.length_cons, List.length_nil]; omega)) only [go_sem, Nat.reduceAdd, Nat.reduceMul, Nat.reduceSub, Int.reduceAdd, Int.reduceMul, Int.reduceSub, Int.reduceNeg, Int.reduceToNat])
      have e3 := int_set (f := (·.1)) (L := L) i (freeT x u)
      have e4 : (freeT x u).1 = 0 := by simp [freeT, hu, hxu]
      simp only [e4] at e3
      simp only [e3]
      simpa [freeE, hu, hxu] using this
    · simp -implicitDefEqProofs (disch := first | omega | (simp only [St.set_n, St.up_n, List.length_cons, List.length_nil]; omega)) only [go_sem, Nat.reduceAdd, Nat.reduceMul, Nat.reduceSub, Int.reduceAdd, Int.reduceMul, Int.reduceSub, Int.reduceNeg, Int.reduceToNat, hxu]
      have := hK σ (keep _ (by simp [freeT, hu, hxu]) (by simp [freeT, hu, hxu])) rfl (fun _ _ _ => rfl)
      simpa [freeE, hu, hxu] using this
theorem ref_try {r o c : Nat} {L : List Lk} (hr : IsRef σ r o c L) {i : Nat} {x : Lk} (hx : L[i]? = some x) {u : Int}
    (hK : ∀ τ, IsRef τ r o c (L.set i (tryT x u)) → τ.n = σ.n → (∀ b, b ≠ o → b ≠ c → τ.m b = σ.m b) → K (.bool (tryB x.1 u)) τ) : Fn Try.prog B 65 #[.pointer (some ⟨r, 0, none⟩), .int .i64 i, .int .i64 u] σ K := by
  have hi := (List.getElem?_eq_some_iff.1 hx).1
  refine Fn.of is65 (by simp) fun hwf => ?_
  simp only [b65, Try.f65, Option.getD_some]
  simp -implicitDefEqProofs (disch := first | omega | (simp only [St.set_n, St.up_n, List.length_cons, List.length_nil]; omega)) only [go_sem, Nat.reduceAdd, Nat.reduceMul, Nat.reduceSub, Int.reduceAdd, Int.reduceMul, Int.reduceSub, Int.reduceNeg, Int.reduceToNat]
  refine callF_of (ref_there hr ?_)
  have hi' : (0 : Int) ≤ i ∧ (i : Int) < L.length := by omega
  have hi2 : (i : Int) < L.length := by omega
  simp -implicitDefEqProofs (disch := first | omega | (simp only [St.set_n, St.up_n, List.length_cons, List.length_nil]; omega)) only [go_sem, Nat.reduceAdd, Nat.reduceMul, Nat.reduceSub, Int.reduceAdd, Int.reduceMul, Int.reduceSub, Int.reduceNeg, Int.reduceToNat, hi']
  rcases hr with ⟨rfl, _⟩ | ⟨h1, h2, h3, h4, h5, h6⟩
  · simp at hx
  have e1 : ∀ y : Lk, y.2.2 = x.2.2 → (L.set i y).map (·.2.2) = L.map (·.2.2) := fun y hy => by
    rw [List.map_set, hy]
    apply List.ext_getElem?
    intro j
    by_cases hj : j = i
    · subst hj; rw [List.getElem?_set_self (by simpa using hi)]; simp [hx]
    · rw [List.getElem?_set_ne (Ne.symm hj)]
  have e2 : ∀ y : Lk, y.1 = x.1 → (L.set i y).map (·.1) = L.map (·.1) := fun y hy => by
    rw [List.map_set, hy]
    apply List.ext_getElem?
    intro j
    by_cases hj : j = i
    · subst hj; rw [List.getElem?_set_self (by simpa using hi)]; simp [hx]
    · rw [List.getElem?_set_ne (Ne.symm hj)]
  have hl : ∀ y : Lk, (L.set i y).length = L.length := fun y => by simp
  have keep : ∀ y : Lk, y.1 = x.1 → y.2.2 = x.2.2 → IsRef σ r o c (L.set i y) := fun y hy hy' => by
    refine .inr ⟨h1, h2, h3, ?_, ?_, ?_⟩
    · rw [hl]; exact h4
    · rw [e2 y hy]; exact h5
    · rw [e1 y hy']; exact h6
  by_cases hu : u < 1
  · simp -implicitDefEqProofs (disch := first | omega | (simp only [St.set_n, St.up_n, List.length_cons, List.length_nil]; omega)) only [go_sem, Nat.reduceAdd, Nat.reduceMul, Nat.reduceSub, Int.reduceAdd, Int.reduceMul, Int.reduceSub, Int.reduceNeg, Int.reduceToNat, hu]
    have := hK σ (keep _ (by simp [tryT, hu]) (by simp [tryT, hu])) rfl (fun _ _ _ => rfl)
    simpa [tryB, hu] using this
  · have hx1 := int_at (f := (·.1)) hx
    have hx2 := int_at (f := (·.2.2)) hx
    simp -implicitDefEqProofs (disch := first | omega | (simp only [St.set_n, St.up_n, List.length_cons, List.length_nil]; omega)) only [go_sem, Nat.reduceAdd, Nat.reduceMul, Nat.reduceSub, Int.reduceAdd, Int.reduceMul, Int.reduceSub, Int.reduceNeg, Int.reduceToNat, hu, h4, hi2, h5, hx1]
    by_cases hxu : x.1 = 0
    · simp -implicitDefEqProofs (disch := first | omega | (simp only [St.set_n, St.up_n, List.length_cons, List.length_nil]; omega)) only [go_sem, Nat.reduceAdd, Nat.reduceMul, Nat.reduceSub, Int.reduceAdd, Int.reduceMul, Int.reduceSub, Int.reduceNeg, Int.reduceToNat, hxu, h4, hi2, h5, h6, hx2]
      have e3 := int_set (f := (·.1)) (L := L) i (tryT x u)
      have e4 : (tryT x u).1 = u := by simp [tryT, hu, hxu]
      simp only [e4] at e3
      have e5 := int_set (f := (·.2.2)) (L := L) i (tryT x u)
      have e6 : (tryT x u).2.2 = IntKind.i64.wrap (x.2.2 + 1) := by simp [tryT, hu, hxu]
      simp only [e6] at e5
      have := hK ((σ.set o (.raw (.cells (ints ((L.set i (tryT x u)).map (·.1))).toArray 3 (0, 0)))).set c (.raw (.cells (ints ((L.set i (tryT x u)).map (·.2.2))).toArray 3 (0, 0))))
        (.inr ⟨h1, h2, h3, by simp -implicitDefEqProofs (disch := first | omega | (simp only [St.set_n, St.up_n, List.length_cons, List.length_nil]; omega)) only [go_sem, Nat.reduceAdd, Nat.reduceMul, Nat.reduceSub, Int.reduceAdd, Int.reduceMul, Int.reduceSub, Int.reduceNeg, Int.reduceToNat, h4, hl], by simp -implicitDefEqProofs (disch := first | omega | (simp only [St.set_n, St.up_n, List.length_cons, List.length_nil]; omega)) only [go_sem, Nat.reduceAdd, Nat.reduceMul, Nat.reduceSub, Int.reduceAdd, Int.reduceMul, Int.reduceSub, Int.reduceNeg, Int.reduceToNat], by simp -implicitDefEqProofs (disch := first | omega | (simp only [St.set_n, St.up_n, List.length_cons, List.length_nil]; omega)) only [go_sem, Nat.reduceAdd, Nat.reduceMul, Nat.reduceSub, Int.reduceAdd, Int.reduceMul, Int.reduceSub, Int.reduceNeg, Int.reduceToNat]⟩) rfl (fun b hb hb' => by simp -implicitDefEqProofs (disch := first | omega | (simp only [St.set_n, St.up_n, List.length_cons, List.length_nil]; omega)) only [go_sem, Nat.reduceAdd, Nat.reduceMul, Nat.reduceSub, Int.reduceAdd, Int.reduceMul, Int.reduceSub, Int.reduceNeg, Int.reduceToNat])
      simp only [e3, e5]
      simpa [tryB, hu, hxu] using this
    · simp -implicitDefEqProofs (disch := first | omega | (simp only [St.set_n, St.up_n, List.length_cons, List.length_nil]; omega)) only [go_sem, Nat.reduceAdd, Nat.reduceMul, Nat.reduceSub, Int.reduceAdd, Int.reduceMul, Int.reduceSub, Int.reduceNeg, Int.reduceToNat, hxu]
      have := hK σ (keep _ (by simp [tryT, hu, hxu]) (by simp [tryT, hu, hxu])) rfl (fun _ _ _ => rfl)
      simpa [tryB, hu, hxu] using this
/-- Where there is no such lock, nothing is done. -/
theorem ref_free_none {r o c : Nat} {L : List Lk} (hr : IsRef σ r o c L) {i u : Int} (hi : ¬ (0 ≤ i ∧ i < L.length)) (hK : K (.int .i64 9) σ) : Fn Try.prog B 64 #[.pointer (some ⟨r, 0, none⟩), .int .i64 i, .int .i64 u] σ K := by
  refine Fn.of is64 (by simp) fun hwf => ?_
  simp only [b64, Try.f64, Option.getD_some]
  simp -implicitDefEqProofs (disch := first | omega | (simp only [St.set_n, St.up_n, List.length_cons, List.length_nil]; omega)) only [go_sem, Nat.reduceAdd, Nat.reduceMul, Nat.reduceSub, Int.reduceAdd, Int.reduceMul, Int.reduceSub, Int.reduceNeg, Int.reduceToNat]
  refine callF_of (ref_there hr ?_)
  simp -implicitDefEqProofs (disch := first | omega | (simp only [St.set_n, St.up_n, List.length_cons, List.length_nil]; omega)) only [go_sem, Nat.reduceAdd, Nat.reduceMul, Nat.reduceSub, Int.reduceAdd, Int.reduceMul, Int.reduceSub, Int.reduceNeg, Int.reduceToNat, hi]
  exact hK
theorem ref_try_none {r o c : Nat} {L : List Lk} (hr : IsRef σ r o c L) {i u : Int} (hi : ¬ (0 ≤ i ∧ i < L.length)) (hK : K (.bool false) σ) : Fn Try.prog B 65 #[.pointer (some ⟨r, 0, none⟩), .int .i64 i, .int .i64 u] σ K := by
  refine Fn.of is65 (by simp) fun hwf => ?_
  simp only [b65, Try.f65, Option.getD_some]
  simp -implicitDefEqProofs (disch := first | omega | (simp only [St.set_n, St.up_n, List.length_cons, List.length_nil]; omega)) only [go_sem, Nat.reduceAdd, Nat.reduceMul, Nat.reduceSub, Int.reduceAdd, Int.reduceMul, Int.reduceSub, Int.reduceNeg, Int.reduceToNat]
  refine callF_of (ref_there hr ?_)
  simp -implicitDefEqProofs (disch := first | omega | (simp only [St.set_n, St.up_n, List.length_cons, List.length_nil]; omega)) only [go_sem, Nat.reduceAdd, Nat.reduceMul, Nat.reduceSub, Int.reduceAdd, Int.reduceMul, Int.reduceSub, Int.reduceNeg, Int.reduceToNat, hi]
  exact hK
end
end Go.Proofs.Ytbjgoajdfdonfaa
