/- The run without a bound on its moves, as plain functions. -/
import Derived.Test.YtgcojbgkenndhaaWorldC
namespace Go.Proofs.Ytgcojbgkenndhaa
set_option linter.unusedSimpArgs false
set_option linter.unusedVariables false
set_option maxRecDepth 100000
open Go Go.RowKit
structure RS where
  w : WS
  px : Nat → Nat
  mv : List Int
  ca : Nat
section
variable {B : World} (th : List (List (Int × Int)))
def turnP (a : RS) (t : Int) : RS × Bool :=
  if 0 ≤ t ∧ t < th.length ∧ a.px t.toNat < lenT th t.toNat then
    (⟨(actW th a.w t.toNat (a.px t.toNat)).1, if (actW th a.w t.toNat (a.px t.toNat)).2 then updAt a.px t.toNat else a.px, if (actW th a.w t.toNat (a.px t.toNat)).2 then a.mv ++ [t] else a.mv, a.ca + 1⟩, (actW th a.w t.toNat (a.px t.toNat)).2)
  else (a, false)
def leftP (px : Nat → Nat) : Bool := (List.range th.length).any fun t => decide (px t < lenT th t)
def picksP : RS → List Int → RS
  | a, [] => a
  | a, p :: ps => picksP (turnP th a p).1 ps
def roundP : RS → Nat → Bool → Nat → RS × Bool
  | a, _, y, 0 => (a, y)
  | a, i, y, k + 1 => roundP (turnP th a i).1 (i + 1) (y || (turnP th a i).2) k
def loopP : Nat → RS → RS × Int
  | 0, a => (a, 12)
  | k + 1, a => if leftP th a.px then (if (roundP th a 0 false th.length).2 then loopP k (roundP th a 0 false th.length).1 else ((roundP th a 0 false th.length).1, 12)) else (a, 0)
variable {th}
structure GoodP (th : List (List (Int × Int))) (a : RS) : Prop where
  ok : OkW th a.w a.px
  mv : a.mv.length = tot a.px th.length
theorem GoodP.le {a : RS} (h : GoodP th a) (hs : Sm th) : a.mv.length ≤ 600 ∧ a.w.D.length = a.mv.length := by
  have h1 := h.ok.dl hs
  have h2 := h.ok.d
  have h3 := h.mv
  omega
theorem GoodP.turn {a : RS} (h : GoodP th a) (t : Int) : GoodP th (turnP th a t).1 := by
  unfold turnP
  split
  · rename_i hc
    have ht : t.toNat < th.length := by omega
    refine ⟨h.ok.step ht hc.2.2, ?_⟩
    have h2 := h.mv
    simp only
    split
    · rw [tot_upd]; simp only [ht, if_true, List.length_append, List.length_singleton]; omega
    · exact h2
  · exact h
theorem turnP_ca (a : RS) (t : Int) : (turnP th a t).1.ca ≤ a.ca + 1 ∧ a.mv.length ≤ (turnP th a t).1.mv.length ∧ ((turnP th a t).2 = true → (turnP th a t).1.mv.length = a.mv.length + 1) := by
  unfold turnP
  split
  · simp only
    refine ⟨Nat.le_refl _, ?_, fun h => ?_⟩
    · split <;> simp
    · simp [h]
  · exact ⟨by simp, by simp, fun h => by cases h⟩
theorem turnP_px {a : RS} {t : Int} {u : Nat} (hu : (u : Int) ≠ t) : (turnP th a t).1.px u = a.px u := by
  unfold turnP
  split
  · rename_i hc
    simp only
    split
    · unfold updAt
      rw [if_neg (by omega)]
    · rfl
  · rfl
theorem GoodP.picks : ∀ (ps : List Int) (a : RS), GoodP th a → GoodP th (picksP th a ps)
  | [], _, h => h
  | p :: ps, _, h => GoodP.picks ps _ (h.turn p)
theorem GoodP.round : ∀ (k : Nat) (a : RS) (i : Nat) (y : Bool), GoodP th a → GoodP th (roundP th a i y k).1
  | 0, _, _, _, h => h
  | k + 1, _, i, _, h => GoodP.round k _ _ _ (h.turn i)
theorem GoodP.loop : ∀ (k : Nat) (a : RS), GoodP th a → GoodP th (loopP th k a).1
  | 0, _, h => h
  | k + 1, a, h => by
    rw [loopP]
    have h1 := h.round th.length a 0 false
    split
    · split
      · exact GoodP.loop k _ h1
      · exact h1
    · exact h
theorem roundP_mv : ∀ (k : Nat) (a : RS) (i : Nat) (y : Bool), a.mv.length ≤ (roundP th a i y k).1.mv.length ∧ ((roundP th a i y k).2 = true → y = true ∨ a.mv.length < (roundP th a i y k).1.mv.length) ∧ (roundP th a i y k).1.ca ≤ a.ca + k
  | 0, _, _, _ => ⟨Nat.le_refl _, fun h => .inl h, Nat.le_refl _⟩
  | k + 1, a, i, y => by
    obtain ⟨h1, h2, h3⟩ := roundP_mv k (turnP th a i).1 (i + 1) (y || (turnP th a i).2)
    obtain ⟨h4, h5, h6⟩ := turnP_ca (th := th) a i
    rw [roundP]
    refine ⟨by omega, fun h => ?_, by omega⟩
    rcases h2 h with h7 | h7
    · rw [Bool.or_eq_true] at h7
      rcases h7 with h7 | h7
      · exact .inl h7
      · have := h6 h7; exact .inr (by omega)
    · exact .inr (by omega)
theorem left_no {px : Nat → Nat} (h : leftP th px = false) {t : Nat} (ht : t < th.length) : ¬ px t < lenT th t := fun hl => by
  unfold leftP at h
  rw [List.any_eq_false] at h
  exact h t (List.mem_range.2 ht) (by simpa using hl)
theorem turn_no {a : RS} (h : leftP th a.px = false) (t : Int) : turnP th a t = (a, false) := by
  unfold turnP
  split
  · rename_i hc
    exact absurd hc.2.2 (left_no h (by omega))
  · rfl
theorem round_no {a : RS} (h : leftP th a.px = false) : ∀ (k i : Nat) (y : Bool), roundP th a i y k = (a, y)
  | 0, _, _ => rfl
  | k + 1, i, y => by rw [roundP, turn_no h]; simp only [Bool.or_false]; exact round_no h k _ _

theorem any_same {l : List Nat} {f g : Nat → Bool} (h : ∀ t ∈ l, f t = g t) : l.any f = l.any g := by
  induction l with
  | nil => rfl
  | cons x l ih => rw [List.any_cons, List.any_cons, h x (by simp), ih fun t ht => h t (by simp [ht])]

/-! ### The same with the machine -/
variable {q : Nat} {Bx : Nat → HP → Prop} {fs : Nat → List Value} {hc : Cls B q th Bx fs} {hs : Sm th}
abbrev WY (hc : Cls B q th Bx fs) (hs : Sm th) : Sys B := chainSys (wSys q th Bx fs hc hs)
def cvP (a : (WY hc hs).MA) : RS := ⟨a.x.1, a.x.2, a.mv, a.ca⟩
theorem cv_left (a : (WY hc hs).MA) : Sys.leftA a.x = leftP th (cvP a).px := by
  unfold Sys.leftA leftP
  show (List.range th.length).any (fun t => decide (t < th.length ∧ a.x.2 t < (fs t).length)) = (List.range th.length).any (fun t => decide (a.x.2 t < lenT th t))
  refine any_same fun t ht => ?_
  have := List.mem_range.1 ht
  rw [hc.len]
  simp [this]
theorem cv_turn (a : (WY hc hs).MA) (t : Int) : cvP (Sys.turnA a t).1 = (turnP th (cvP a) t).1 ∧ (Sys.turnA a t).2 = (turnP th (cvP a) t).2 := by
  unfold Sys.turnA turnP
  have e : (0 ≤ t ∧ t < ((WY hc hs).n : Int) ∧ (WY hc hs).live a.x t.toNat = true) ↔ (0 ≤ t ∧ t < (th.length : Int) ∧ (cvP a).px t.toNat < lenT th t.toNat) := by
    show (0 ≤ t ∧ t < (th.length : Int) ∧ decide (t.toNat < th.length ∧ a.x.2 t.toNat < (fs t.toNat).length) = true) ↔ (0 ≤ t ∧ t < (th.length : Int) ∧ a.x.2 t.toNat < lenT th t.toNat)
    rw [hc.len, decide_eq_true_eq]
    constructor
    · rintro ⟨h1, h2, h3⟩; exact ⟨h1, h2, h3.2⟩
    · rintro ⟨h1, h2, h3⟩; exact ⟨h1, h2, by omega, h3⟩
  by_cases h : 0 ≤ t ∧ t < (th.length : Int) ∧ (cvP a).px t.toNat < lenT th t.toNat
  · rw [if_pos h, if_pos (e.2 h)]
    exact ⟨rfl, rfl⟩
  · rw [if_neg h, if_neg fun h2 => h (e.1 h2)]
    exact ⟨rfl, rfl⟩
theorem cv_full {a : (WY hc hs).MA} (h : GoodP th (cvP a)) : Sys.fullA a = false := by
  have h1 : a.mv.length ≤ 600 := (h.le hs).1
  unfold Sys.fullA
  have : ¬ 65536 ≤ a.mv.length := by omega
  simp [this]
theorem cv_picks : ∀ (ps : List Int) (a : (WY hc hs).MA), GoodP th (cvP a) → cvP (Sys.picksA a ps) = picksP th (cvP a) ps
  | [], _, _ => rfl
  | p :: ps, a, h => by
    obtain ⟨h1, _⟩ := cv_turn a p
    rw [Sys.picksA, cv_full h, picksP, ← h1]
    simp only [Bool.false_eq_true, if_false]
    exact cv_picks ps _ (h1 ▸ h.turn p)
theorem cv_round : ∀ (k : Nat) (a : (WY hc hs).MA) (i : Nat) (y : Bool), GoodP th (cvP a) → cvP (Sys.roundA a i y k).1 = (roundP th (cvP a) i y k).1 ∧ (Sys.roundA a i y k).2 = (roundP th (cvP a) i y k).2
  | 0, _, _, _, _ => ⟨rfl, rfl⟩
  | k + 1, a, i, y, h => by
    obtain ⟨h1, h2⟩ := cv_turn a i
    rw [Sys.roundA, cv_full h, roundP, ← h1, ← h2]
    simp only [Bool.false_eq_true, if_false]
    exact cv_round k _ _ _ (h1 ▸ h.turn i)
theorem cv_loop : ∀ (k : Nat) (a : (WY hc hs).MA), GoodP th (cvP a) → cvP (Sys.loopA k a).1 = (loopP th k (cvP a)).1 ∧ (Sys.loopA k a).2 = (loopP th k (cvP a)).2
  | 0, _, _ => ⟨rfl, rfl⟩
  | k + 1, a, h => by
    obtain ⟨h1, h2⟩ := cv_round th.length a 0 false h
    have h3 : Sys.roundA a 0 false (WY hc hs).n = Sys.roundA a 0 false th.length := rfl
    rw [Sys.loopA, cv_full h, loopP, cv_left, h3, h2]
    simp only [Bool.false_eq_true, if_false]
    split
    · split
      · have := cv_loop k (Sys.roundA a 0 false th.length).1 (h1 ▸ h.round th.length (cvP a) 0 false)
        rw [h1] at this
        exact this
      · exact ⟨h1, rfl⟩
    · exact ⟨rfl, rfl⟩
end
end Go.Proofs.Ytgcojbgkenndhaa
