/- 'SchedAll': threads that never wait are all finished: the plain law. -/
import Derived.Test.YtgcojbgkenndhaaWorldP
namespace Go.Proofs.Ytgcojbgkenndhaa
set_option linter.unusedSimpArgs false
set_option linter.unusedVariables false
set_option maxRecDepth 100000
open Go Go.RowKit
/-- Every instruction adds. -/
structure Zk (th : List (List (Int × Int))) : Prop where
  k : ∀ t p, (insT th t p).1 = 0
section
variable {th : List (List (Int × Int))}
theorem Zk.act (h : Zk th) (w : WS) (t p : Nat) : (actW th w t p).2 = true := by
  unfold actW
  rw [h.k]
  rfl
structure GoodA (th : List (List (Int × Int))) (a : RS) : Prop where
  g : GoodP th a
  ca : a.ca = a.mv.length
  ct : ∀ t, t < th.length → a.mv.count (t : Int) = a.px t
  rg : ∀ x ∈ a.mv, 0 ≤ x ∧ x < th.length ∧ lenT th x.toNat ≠ 0
theorem turn_live (h : Zk th) {a : RS} {t : Nat} (ht : t < th.length) (hl : a.px t < lenT th t) : turnP th a t = (⟨(actW th a.w t (a.px t)).1, updAt a.px t, a.mv ++ [(t : Int)], a.ca + 1⟩, true) := by
  unfold turnP
  rw [if_pos ⟨by omega, by omega, by simpa using hl⟩]
  simp only [Int.toNat_natCast, h.act, if_true]
theorem GoodA.turn (h : Zk th) {a : RS} (g : GoodA th a) (x : Int) : GoodA th (turnP th a x).1 := by
  by_cases hc : 0 ≤ x ∧ x < th.length ∧ a.px x.toNat < lenT th x.toNat
  · obtain ⟨t, rfl⟩ : ∃ t : Nat, x = t := ⟨x.toNat, by omega⟩
    have ht : t < th.length := by omega
    have hl : a.px t < lenT th t := by simpa using hc.2.2
    refine ⟨g.g.turn t, ?_, fun u hu => ?_, fun y hy => ?_⟩
    · rw [turn_live h ht hl]; simp [g.ca]
    · rw [turn_live h ht hl]
      simp only [List.count_append, g.ct u hu]
      unfold updAt
      by_cases e : u = t
      · subst e; simp
      · have : ¬ (t : Int) = (u : Int) := by omega
        simp [e, List.count_cons, this]
    · rw [turn_live h ht hl] at hy
      simp only [List.mem_append, List.mem_singleton] at hy
      rcases hy with hy | rfl
      · exact g.rg y hy
      · exact ⟨by omega, by omega, by simp only [Int.toNat_natCast]; omega⟩
  · have : turnP th a x = (a, false) := by unfold turnP; rw [if_neg hc]
    rw [this]; exact g
theorem GoodA.picks (h : Zk th) : ∀ (ps : List Int) (a : RS), GoodA th a → GoodA th (picksP th a ps)
  | [], _, g => g
  | p :: ps, _, g => GoodA.picks h ps _ (g.turn h p)
theorem GoodA.round (h : Zk th) : ∀ (k : Nat) (a : RS) (i : Nat) (y : Bool), GoodA th a → GoodA th (roundP th a i y k).1
  | 0, _, _, _, g => g
  | k + 1, _, i, _, g => GoodA.round h k _ _ _ (g.turn h i)
theorem round_true : ∀ (k : Nat) (a : RS) (i : Nat), (roundP th a i true k).2 = true
  | 0, _, _ => rfl
  | k + 1, a, i => by rw [roundP, Bool.true_or]; exact round_true k _ _
theorem round_live (h : Zk th) {t : Nat} (ht : t < th.length) : ∀ (k : Nat) (a : RS) (i : Nat) (y : Bool), i ≤ t → t < i + k → a.px t < lenT th t → (roundP th a i y k).2 = true
  | 0, _, _, _, h1, h2, _ => by omega
  | k + 1, a, i, y, h1, h2, h3 => by
    rw [roundP]
    by_cases e : i = t
    · subst e
      rw [turn_live h ht h3, Bool.or_true]
      exact round_true k _ _
    · exact round_live h ht k _ _ _ (by omega) (by omega) (by rw [turnP_px (by omega)]; exact h3)
theorem loop_all (h : Zk th) (hs : Sm th) : ∀ (k : Nat) (a : RS), GoodA th a → 601 - a.mv.length ≤ k → (loopP th k a).2 = 0 ∧ GoodA th (loopP th k a).1 ∧ leftP th (loopP th k a).1.px = false
  | 0, a, g, hk => by have := (g.g.le hs).1; omega
  | k + 1, a, g, hk => by
    rw [loopP]
    cases hl : leftP th a.px with
    | false =>
      simp only [Bool.false_eq_true, if_false]
      exact ⟨trivial, g, hl⟩
    | true =>
      have hl' := hl
      unfold leftP at hl'
      rw [List.any_eq_true] at hl'
      obtain ⟨t, ht, hlv⟩ := hl'
      have htn := List.mem_range.1 ht
      have hr := round_live h htn th.length a 0 false (by omega) (by omega) (by simpa using hlv)
      obtain ⟨r1, r2, _⟩ := roundP_mv (th := th) th.length a 0 false
      have r3 := (r2 hr).resolve_left (by simp)
      simp only [hr, if_true]
      exact loop_all h hs k _ (g.round h _ _ _ _) (by omega)
theorem tot_eq {px : Nat → Nat} {f : Nat → Nat} : ∀ n, (∀ t, t < n → px t = f t) → tot px n = tot f n
  | 0, _ => rfl
  | n + 1, h => by rw [tot, tot, tot_eq n fun t ht => h t (by omega), h n (by omega)]
/-- All that the law looks at. -/
theorem run_all (h : Zk th) (hs : Sm th) (w : WS) (hw : w.D = []) (ps : List Int) : (loopP th 70000 (picksP th ⟨w, fun _ => 0, [], 0⟩ ps)).2 = 0 ∧ GoodA th (loopP th 70000 (picksP th ⟨w, fun _ => 0, [], 0⟩ ps)).1 ∧
    (∀ t, t < th.length → (loopP th 70000 (picksP th ⟨w, fun _ => 0, [], 0⟩ ps)).1.px t = lenT th t) ∧ (loopP th 70000 (picksP th ⟨w, fun _ => 0, [], 0⟩ ps)).1.mv.length = tot (lenT th) th.length := by
  have h0 : ∀ n, 0 = tot (fun _ => 0) n := fun n => by
    induction n with
    | zero => rfl
    | succ n ih => rw [tot, ← ih]
  have g0 : GoodA th ⟨w, fun _ => 0, [], 0⟩ := ⟨⟨⟨by show w.D.length = _; rw [hw]; exact h0 _, fun t _ => Nat.zero_le _⟩, h0 _⟩, rfl, fun t _ => rfl, fun x hx => by cases hx⟩
  have g1 := g0.picks h ps
  obtain ⟨r1, r2, r3⟩ := loop_all h hs 70000 _ g1 (by omega)
  have r4 : ∀ t, t < th.length → (loopP th 70000 (picksP th ⟨w, fun _ => 0, [], 0⟩ ps)).1.px t = lenT th t := fun t ht => by
    have := left_no r3 ht
    have := r2.g.ok.l t ht
    omega
  exact ⟨r1, r2, r4, by rw [r2.g.mv]; exact tot_eq _ r4⟩
end
end Go.Proofs.Ytgcojbgkenndhaa
