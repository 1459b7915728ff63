/- A run of threads that always go on: all are finished. -/
import Derived.Test.YtdbgeahmhfocaaaGreatLStep
namespace Go.Proofs.YtdbgeahmhfocaaaGreat
set_option linter.unusedSimpArgs false
set_option linter.unusedVariables false
set_option maxRecDepth 100000
open Go Go.RowKit
section
variable {B : World}
structure Prg (Y : Sys B) (Good : Y.X → Prop) (μ : Y.X → Nat) : Prop where
  good : ∀ {x t}, Good x → t < Y.n → Y.live x t = true → Good (Y.tr x t).1
  dec : ∀ {x t}, Good x → t < Y.n → Y.live x t = true → (Y.tr x t).2 = true → μ (Y.tr x t).1 + 1 = μ x
  stay : ∀ {x t}, Good x → t < Y.n → Y.live x t = true → (Y.tr x t).2 = false → μ (Y.tr x t).1 = μ x ∧ ∀ j, j < Y.n → Y.live (Y.tr x t).1 j = Y.live x j ∧ (Y.live x j = true → (Y.tr (Y.tr x t).1 j).2 = (Y.tr x j).2)
  prog : ∀ {x}, Good x → Sys.leftA x = true → ∃ t, t < Y.n ∧ Y.live x t = true ∧ (Y.tr x t).2 = true
  fin : ∀ {x}, Good x → Sys.leftA x = false → μ x = 0
structure GoodA {Y : Sys B} (Good : Y.X → Prop) (μ : Y.X → Nat) (N : Nat) (a : Y.MA) : Prop where
  g : Good a.x
  n : a.mv.length + μ a.x = N
variable {Y : Sys B} {Good : Y.X → Prop} {μ : Y.X → Nat} {N : Nat}
theorem GoodA.turn {a : Y.MA} (hp : Prg Y Good μ) (h : GoodA Good μ N a) (t : Int) : GoodA Good μ N (Sys.turnA a t).1 := by
  unfold Sys.turnA
  split
  · rename_i hc
    have htn : t.toNat < Y.n := by omega
    refine ⟨hp.good h.g htn hc.2.2, ?_⟩
    have := h.n
    cases hok : (Y.tr a.x t.toNat).2 with
    | true =>
      have := hp.dec h.g htn hc.2.2 hok
      simp only [if_true, List.length_append, List.length_cons, List.length_nil]
      omega
    | false =>
      have := (hp.stay h.g htn hc.2.2 hok).1
      simp only [Bool.false_eq_true, if_false]
      omega
  · exact h
theorem GoodA.notFull {a : Y.MA} (h : GoodA Good μ N a) (hN : N ≤ 60000) : Sys.fullA a = false := by
  have := h.n
  unfold Sys.fullA
  rw [decide_eq_false (by omega)]; rfl
theorem GoodA.picks (hp : Prg Y Good μ) (hN : N ≤ 60000) : ∀ (ps : List Int) (a : Y.MA), GoodA Good μ N a → GoodA Good μ N (Sys.picksA a ps)
  | [], a, h => h
  | p :: ps, a, h => by
    rw [Sys.picksA, h.notFull hN]
    exact GoodA.picks hp hN ps _ (h.turn hp p)
theorem GoodA.round (hp : Prg Y Good μ) (hN : N ≤ 60000) : ∀ (k i : Nat) (y : Bool) (a : Y.MA), GoodA Good μ N a → GoodA Good μ N (Sys.roundA a i y k).1 ∧ (y = true → (Sys.roundA a i y k).2 = true)
  | 0, i, y, a, h => ⟨h, fun e => e⟩
  | k + 1, i, y, a, h => by
    rw [Sys.roundA, h.notFull hN]
    simp only [Bool.false_eq_true, if_false]
    obtain ⟨h1, h2⟩ := GoodA.round hp hN k (i + 1) (y || (Sys.turnA a i).2) _ (h.turn hp i)
    exact ⟨h1, fun e => h2 (by rw [e]; rfl)⟩
theorem GoodA.moves (hp : Prg Y Good μ) (hN : N ≤ 60000) : ∀ (k i : Nat) (y : Bool) (a : Y.MA), GoodA Good μ N a → i + k = Y.n → (∃ t, i ≤ t ∧ t < Y.n ∧ Y.live a.x t = true ∧ (Y.tr a.x t).2 = true) → (Sys.roundA a i y k).2 = true
  | 0, i, y, a, h, hk, ⟨t, h1, h2, _⟩ => by omega
  | k + 1, i, y, a, h, hk, ⟨t, h1, h2, h3, h4⟩ => by
    rw [Sys.roundA, h.notFull hN]
    simp only [Bool.false_eq_true, if_false]
    have hg := h.turn hp i
    cases hok : (Sys.turnA a i).2 with
    | true => rw [Bool.or_true]; exact (GoodA.round hp hN k (i + 1) true _ hg).2 rfl
    | false =>
      rw [Bool.or_false]
      have hti : t ≠ i := fun e => by
        subst e
        unfold Sys.turnA at hok
        rw [if_pos ⟨by omega, by omega, by simpa using h3⟩] at hok
        simp only [Int.toNat_natCast] at hok
        rw [h4] at hok; cases hok
      refine GoodA.moves hp hN k (i + 1) y _ hg (by omega) ⟨t, by omega, h2, ?_⟩
      by_cases hl : Y.live a.x i = true
      · have e : Sys.turnA a (i : Int) = (⟨(Y.tr a.x i).1, if (Y.tr a.x i).2 then a.mv ++ [(i : Int)] else a.mv, a.ca + 1⟩, (Y.tr a.x i).2) := by
          unfold Sys.turnA
          rw [if_pos ⟨by omega, by omega, by simpa using hl⟩]
          simp only [Int.toNat_natCast]
        rw [e] at hok ⊢
        have h5 := (hp.stay h.g (by omega) hl hok).2 t h2
        exact ⟨h5.1.trans h3, (h5.2 h3).trans h4⟩
      · have e : Sys.turnA a (i : Int) = (a, false) := by
          unfold Sys.turnA
          rw [if_neg fun hc => hl (by simpa using hc.2.2)]
        rw [e]; exact ⟨h3, h4⟩
theorem GoodA.loop (hp : Prg Y Good μ) (hN : N ≤ 60000) : ∀ (k : Nat) (a : Y.MA), GoodA Good μ N a → μ a.x < k → (Sys.loopA k a).2 = 0 ∧ Sys.leftA (Sys.loopA k a).1.x = false ∧ Good (Sys.loopA k a).1.x ∧ (Sys.loopA k a).1.mv.length = N
  | 0, a, h, hk => by omega
  | k + 1, a, h, hk => by
    rw [Sys.loopA, h.notFull hN]
    cases hl : Sys.leftA a.x with
    | false =>
      simp only [Bool.false_eq_true, if_false]
      refine ⟨trivial, hl, h.g, ?_⟩
      have := h.n; have := hp.fin h.g hl; omega
    | true =>
      obtain ⟨t, h1, h2, h3⟩ := hp.prog h.g hl
      have hm := GoodA.moves hp hN Y.n 0 false a h (by omega) ⟨t, by omega, h1, h2, h3⟩
      have hr := (GoodA.round hp hN Y.n 0 false a h).1
      simp only [if_true, Bool.false_eq_true, if_false, hm]
      refine GoodA.loop hp hN k _ hr ?_
      obtain ⟨_, r2, _⟩ := Sys.round_mono (a := a) Y.n 0 false
      have r3 := (r2 hm).resolve_left (fun h => by cases h)
      have := h.n; have := hr.n
      omega
theorem run_ends (hp : Prg Y Good μ) {x0 : Y.X} (hN : μ x0 ≤ 60000) (hg : Good x0) (picks : List Int) :
    (Sys.loopA 70000 (Sys.picksA ⟨x0, [], 0⟩ picks)).2 = 0 ∧ Sys.leftA (Sys.loopA 70000 (Sys.picksA ⟨x0, [], 0⟩ picks)).1.x = false ∧ Good (Sys.loopA 70000 (Sys.picksA ⟨x0, [], 0⟩ picks)).1.x ∧ (Sys.loopA 70000 (Sys.picksA ⟨x0, [], 0⟩ picks)).1.mv.length = μ x0 := by
  have h0 : GoodA Good μ (μ x0) (⟨x0, [], 0⟩ : Y.MA) := ⟨hg, by simp⟩
  have h1 := GoodA.picks hp hN picks _ h0
  exact GoodA.loop hp hN 70000 _ h1 (by have := h1.n; omega)
theorem left_none {x : Y.X} (h : Sys.leftA x = false) {t : Nat} (ht : t < Y.n) : Y.live x t = false := by
  unfold Sys.leftA at h
  rw [List.any_eq_false] at h
  have := h t (List.mem_range.2 ht)
  simpa using this
theorem left_of {x : Y.X} (h : Sys.leftA x = true) : ∃ t, t < Y.n ∧ Y.live x t = true := by
  unfold Sys.leftA at h
  obtain ⟨t, h1, h2⟩ := List.any_eq_true.1 h
  exact ⟨t, List.mem_range.1 h1, h2⟩
end
end Go.Proofs.YtdbgeahmhfocaaaGreat
