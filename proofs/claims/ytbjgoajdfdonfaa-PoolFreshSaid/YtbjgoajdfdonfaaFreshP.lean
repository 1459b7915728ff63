/- Tickets of a pool: plain laws. -/
import Derived.Test.YtbjgoajdfdonfaaPlays10
namespace Go.Proofs.Ytbjgoajdfdonfaa
set_option linter.unusedSimpArgs false
set_option linter.unusedVariables false
open Go Go.RowKit

abbrev Tk := Int × Int × Bool
def xs : ByteArray := ⟨#[120]⟩
/-- What is known of the pool, and of the tickets: a number, a stamp, whether it is given back. -/
structure FInv (S : PS ByteArray) (T : List Tk) (N : Nat) : Prop where
  at_ : ∀ f ∈ S.fr, ∃ i : Nat, f = (i : Int) + 1 ∧ ∃ x s, S.l[i]? = some (x, s, false)
  nodup : S.fr.Nodup
  st : ∀ (i : Nat) (x : ByteArray) (s : Int) (t : Bool), S.l[i]? = some (x, s, t) → 0 ≤ s ∧ s ≤ N ∧ (t = true → x = xs)
  tick : ∀ x ∈ T, ∃ (j : Nat) (y : ByteArray) (s : Int) (t : Bool), x.1 = (j : Int) + 1 ∧ S.l[j]? = some (y, s, t) ∧ x.2.1 ≤ s ∧ (x.2.2 = true ↔ x.2.1 < s) ∧ (x.2.1 = s → t = true)
  len : S.l.length ≤ N
  frl : S.fr.length ≤ N
  tl : T.length ≤ N

variable {S : PS ByteArray} {T : List Tk} {N : Nat}
theorem FInv.up (h : FInv S T N) {M : Nat} (hM : N ≤ M) : FInv S T M :=
  ⟨h.at_, h.nodup, fun i x s t hi => let ⟨h1, h2, h3⟩ := h.st i x s t hi; ⟨h1, by omega, h3⟩, h.tick, by have := h.len; omega, by have := h.frl; omega, by have := h.tl; omega⟩
theorem FInv.new (h : FInv S T N) : FInv { S with l := S.l ++ [(xs, 0, true)] } (T ++ [((S.l.length : Int) + 1, 0, false)]) (N + 1) := by
  have app : ∀ {j : Nat} {x : Pl ByteArray}, S.l[j]? = some x → (S.l ++ [(xs, 0, true)])[j]? = some x := fun hj => by
    rw [List.getElem?_append_left (List.getElem?_eq_some_iff.1 hj).1]; exact hj
  refine ⟨fun f hf => ?_, h.nodup, fun i x s t hi => ?_, fun x hx => ?_, by have := h.len; simp; omega, by have := h.frl; simp only; omega, by have := h.tl; simp; omega⟩
  · obtain ⟨i, e, x, s, hi⟩ := h.at_ f hf
    exact ⟨i, e, x, s, app hi⟩
  · by_cases hl : i < S.l.length
    · simp only at hi
      rw [List.getElem?_append_left hl] at hi
      obtain ⟨h1, h2, h3⟩ := h.st i x s t hi
      exact ⟨h1, by omega, h3⟩
    · simp only at hi
      rw [List.getElem?_append_right (by omega)] at hi
      by_cases e : i - S.l.length = 0
      · rw [e] at hi; simp at hi; obtain ⟨rfl, rfl, rfl⟩ := hi; exact ⟨by omega, by omega, fun _ => rfl⟩
      · obtain ⟨k, hk⟩ := Nat.exists_eq_succ_of_ne_zero e
        rw [hk] at hi; simp at hi
  · rcases List.mem_append.1 hx with hx | hx
    · obtain ⟨j, y, s, t, h1, h2, h3⟩ := h.tick x hx
      exact ⟨j, y, s, t, h1, app h2, h3⟩
    · simp only [List.mem_singleton] at hx
      subst hx
      exact ⟨S.l.length, xs, 0, true, rfl, by simp, by simp, by simp, by simp⟩
theorem FInv.again (h : FInv S T N) {fr0 : List Int} {i : Nat} {y : ByteArray} {s : Int} (hfr : S.fr = fr0 ++ [(i : Int) + 1]) (hi : S.l[i]? = some (y, s, false)) :
    FInv { S with l := S.l.set i (xs, s, true), fr := fr0 } (T ++ [((i : Int) + 1, s, false)]) (N + 1) := by
  have hil := (List.getElem?_eq_some_iff.1 hi).1
  have hn := h.nodup
  rw [hfr, List.nodup_append] at hn
  obtain ⟨s1, s2, _⟩ := h.st i y s false hi
  refine ⟨fun f hf => ?_, hn.1, fun j x s' t hj => ?_, fun x hx => ?_, by have := h.len; simp; omega, by have := h.frl; rw [hfr] at this; simp at this ⊢; omega, by have := h.tl; simp; omega⟩
  · obtain ⟨j, rfl, x', s', hj⟩ := h.at_ f (by rw [hfr]; simp [hf])
    refine ⟨j, rfl, x', s', ?_⟩
    have hne : i ≠ j := fun e => by
      subst e
      exact hn.2.2 _ hf _ (by simp) rfl
    simp only
    rw [List.getElem?_set_ne hne]; exact hj
  · simp only at hj
    by_cases e : i = j
    · subst e
      rw [List.getElem?_set_self hil] at hj
      cases hj
      exact ⟨s1, by omega, fun _ => rfl⟩
    · rw [List.getElem?_set_ne e] at hj
      obtain ⟨h1, h2, h3⟩ := h.st j x s' t hj
      exact ⟨h1, by omega, h3⟩
  · rcases List.mem_append.1 hx with hx | hx
    · obtain ⟨j, y', s', t, h1, h2, h3, h4, h5⟩ := h.tick x hx
      by_cases e : i = j
      · subst e
        rw [hi] at h2
        cases h2
        exact ⟨i, xs, s, true, h1, by simp only; rw [List.getElem?_set_self hil], h3, h4, fun _ => rfl⟩
      · exact ⟨j, y', s', t, h1, by simp only; rw [List.getElem?_set_ne e]; exact h2, h3, h4, h5⟩
    · simp only [List.mem_singleton] at hx
      subst hx
      exact ⟨i, xs, s, true, rfl, by simp only; rw [List.getElem?_set_self hil], by simp, by simp, by simp⟩
/-- A ticket that is told anew was told to nobody. -/
theorem FInv.apartN (h : FInv S T N) : ∀ x ∈ T, ¬ (x.1 = (S.l.length : Int) + 1 ∧ x.2.1 = 0) := by
  rintro x hx ⟨h1, _⟩
  obtain ⟨j, y, s, t, h2, h3, _⟩ := h.tick x hx
  have := (List.getElem?_eq_some_iff.1 h3).1
  omega
theorem FInv.apartA (h : FInv S T N) {i : Nat} {y : ByteArray} {s : Int} (hi : S.l[i]? = some (y, s, false)) : ∀ x ∈ T, ¬ (x.1 = (i : Int) + 1 ∧ x.2.1 = s) := by
  rintro x hx ⟨h1, h2⟩
  obtain ⟨j, y', s', t, h3, h4, h5, h6, h7⟩ := h.tick x hx
  have : j = i := by omega
  subst this
  rw [hi] at h4
  cases h4
  have := h7 h2
  cases this
def giveT (T : List Tk) (id : Int) : List Tk := T.map fun x => (x.1, x.2.1, x.2.2 || decide (x.1 = id))
theorem FInv.back (h : FInv S T N) {i : Nat} {y z : ByteArray} {s : Int} (hi : S.l[i]? = some (y, s, true)) : FInv { S with l := S.l.set i (z, s + 1, false), fr := S.fr ++ [(i : Int) + 1] } (giveT T ((i : Int) + 1)) (N + 1) := by
  have hil := (List.getElem?_eq_some_iff.1 hi).1
  obtain ⟨s1, s2, _⟩ := h.st i y s true hi
  refine ⟨fun f hf => ?_, ?_, fun j x s' t hj => ?_, fun x hx => ?_, by have := h.len; simp; omega, by have := h.frl; simp; omega, by have := h.tl; simp [giveT]; omega⟩
  · simp only [List.mem_append, List.mem_singleton] at hf
    rcases hf with hf | rfl
    · obtain ⟨j, rfl, x', s', hj⟩ := h.at_ f hf
      refine ⟨j, rfl, x', s', ?_⟩
      have hne : i ≠ j := fun e => by subst e; rw [hi] at hj; cases hj
      simp only
      rw [List.getElem?_set_ne hne]; exact hj
    · exact ⟨i, rfl, z, _, by simp only; rw [List.getElem?_set_self hil]⟩
  · simp only
    rw [List.nodup_append]
    refine ⟨h.nodup, by simp, fun a ha b hb e => ?_⟩
    simp only [List.mem_singleton] at hb
    subst hb
    subst e
    obtain ⟨j, hj, x', s', hx⟩ := h.at_ _ ha
    have : j = i := by omega
    subst this
    rw [hi] at hx; cases hx
  · simp only at hj
    by_cases e : i = j
    · subst e
      rw [List.getElem?_set_self hil] at hj
      cases hj
      exact ⟨by omega, by omega, fun h => (by cases h)⟩
    · rw [List.getElem?_set_ne e] at hj
      obtain ⟨h1, h2, h3⟩ := h.st j x s' t hj
      exact ⟨h1, by omega, h3⟩
  · simp only [giveT, List.mem_map] at hx
    obtain ⟨x, hx, rfl⟩ := hx
    obtain ⟨j, y', s', t, h1, h2, h3, h4, h5⟩ := h.tick x hx
    simp only
    by_cases e : i = j
    · subst e
      rw [hi] at h2
      cases h2
      refine ⟨i, z, s + 1, false, h1, by rw [List.getElem?_set_self hil], by omega, ?_, fun hh => by omega⟩
      simp only [h1, decide_true, Bool.or_true, true_iff]
      omega
    · refine ⟨j, y', s', t, h1, by rw [List.getElem?_set_ne e]; exact h2, h3, ?_, h5⟩
      have : ¬ (x.1 = (i : Int) + 1) := by omega
      simp only [this, decide_false, Bool.or_false]
      exact h4
/-- What a ticket gets. -/
theorem FInv.get (h : FInv S T N) {x : Tk} (hx : x ∈ T) : (x.2.2 = false → getES S x.1 x.2.1 = (xs, 0)) ∧ (x.2.2 = true → getES S x.1 x.2.1 = (⟨#[]⟩, 9)) := by
  obtain ⟨j, y, s, t, h1, h2, h3, h4, h5⟩ := h.tick x hx
  have hjl := (List.getElem?_eq_some_iff.1 h2).1
  have hin : 1 ≤ x.1 ∧ x.1 ≤ S.l.length := by omega
  have hj : (x.1 - 1).toNat = j := by omega
  unfold getES
  rw [if_pos hin, hj, h2]
  constructor
  · intro hg
    have h6 : ¬ x.2.1 < s := fun e => by rw [h4.2 e] at hg; cases hg
    have h7 : s = x.2.1 := by omega
    have h8 := h5 h7.symm
    simp only
    rw [if_pos ⟨h8, h7⟩, (h.st j y s t h2).2.2 h8]
  · intro hg
    have h6 := h4.1 hg
    simp only
    rw [if_neg (by omega)]
end Go.Proofs.Ytbjgoajdfdonfaa
