/- Histories: when they are right: plain laws. -/
import Derived.Test.YtgcojbgkenndhaaHistC
namespace Go.Proofs.Ytgcojbgkenndhaa
set_option linter.unusedSimpArgs false
set_option linter.unusedVariables false
open Go Go.RowKit

theorem take_snoc' {α : Type} {L : List α} {i : Nat} {x : α} (h : L[i]? = some x) : L.take (i + 1) = L.take i ++ [x] := by
  rw [List.take_add_one, h]; rfl
theorem cnt_take_succ {l : List Cl} {i : Nat} {c : Cl} (h : l[i]? = some c) (t : Int) : cnt (l.take (i + 1)) t = if c.th = t then cnt (l.take i) t + 1 else cnt (l.take i) t := by
  rw [take_snoc' h, cnt_append]
structure OkC (l : List Cl) (i : Nat) (c : Cl) : Prop where
  f1 : 1 ≤ c.fr
  f2 : c.fr < c.to
  inc : ∀ d, 0 < i → l[i - 1]? = some d → d.fr < c.fr
  ne : ∀ (k : Nat) (d : Cl), k < i → l[k]? = some d → d.to ≠ c.to ∧ d.to ≠ c.fr ∧ d.fr ≠ c.to
  th : ∀ (k : Nat) (d : Cl), k < i → l[k]? = some d → d.th = c.th → d.to < c.fr
  pl : c.pl = cnt (l.take i) c.th
def Rt (l : List Cl) : Prop := ∀ (i : Nat) (c : Cl), l[i]? = some c → OkC l i c
/-- Right so far. -/
def RtTo (l : List Cl) (n : Nat) : Prop := ∀ (i : Nat) (c : Cl), i < n → l[i]? = some c → OkC l i c
theorem RtTo.all {l : List Cl} (h : RtTo l l.length) : Rt l := fun i c hc => h i c (List.getElem?_eq_some_iff.1 hc).1 hc
theorem RtTo.succ {l : List Cl} {n : Nat} {c : Cl} (h : RtTo l n) (hc : l[n]? = some c) (ho : OkC l n c) : RtTo l (n + 1) := fun i d hi hd => by
  by_cases e : i = n
  · subst e; rw [hc] at hd; cases hd; exact ho
  · exact h i d (by omega) hd
theorem RtTo.zero {l : List Cl} : RtTo l 0 := fun i c hi => absurd hi (by omega)
theorem not_rt {l : List Cl} {n : Nat} {c : Cl} (hc : l[n]? = some c) (h : ¬ OkC l n c) : ¬ Rt l := fun hr => h (hr n c hc)
/-- The moments of calls that begin rise. -/
theorem RtTo.rise {l : List Cl} {n : Nat} (h : RtTo l n) : ∀ (i k : Nat) (c d : Cl), i < n → k < i → l[i]? = some c → l[k]? = some d → d.fr < c.fr
  | 0, k, c, d, _, hk, _, _ => by omega
  | i + 1, k, c, d, hi, hk, hc, hd => by
    have hl := (List.getElem?_eq_some_iff.1 hc).1
    obtain ⟨e, he⟩ : ∃ e, l[i]? = some e := ⟨l[i]'(by omega), List.getElem?_eq_getElem (by omega)⟩
    have h1 := (h (i + 1) c hi hc).inc e (by omega) (by simpa using he)
    by_cases hki : k = i
    · subst hki; rw [he] at hd; cases hd; exact h1
    · have := h.rise i k e d (by omega) (by omega) he hd; omega
/-- The last one of a thread. -/
def lst : List Cl → Int → Option Cl
  | [], _ => none
  | c :: l, t => match lst l t with | some d => some d | none => if c.th = t then some c else none
theorem lst_append (l : List Cl) (c : Cl) (t : Int) : lst (l ++ [c]) t = if c.th = t then some c else lst l t := by
  induction l with
  | nil => simp [lst]
  | cons x l ih =>
    simp only [List.cons_append, lst, ih]
    by_cases h : c.th = t
    · simp [h]
    · simp [h]
structure Lw (l : List Cl) (t : Int) (w : Cl) : Prop where
  th : w.th = t
  pl : (cnt l t : Int) = w.pl + 1
  to : ∀ (k : Nat) (d : Cl), l[k]? = some d → d.th = t → d.to ≤ w.to
  mem : ∃ k : Nat, l[k]? = some w
theorem lst_spec {l : List Cl} : ∀ (n : Nat), n ≤ l.length → RtTo l n → ∀ t, (lst (l.take n) t = none → cnt (l.take n) t = 0 ∧ ∀ (k : Nat) (d : Cl), (l.take n)[k]? = some d → d.th ≠ t) ∧ ∀ w, lst (l.take n) t = some w → Lw (l.take n) t w
  | 0, _, _, t => ⟨fun _ => ⟨rfl, fun k d h => by simp at h⟩, fun w h => by simp [lst] at h⟩
  | n + 1, hn, hr, t => by
    obtain ⟨c, hc⟩ : ∃ c, l[n]? = some c := ⟨l[n]'(by omega), List.getElem?_eq_getElem (by omega)⟩
    have hr' : RtTo l n := fun i d hi hd => hr i d (by omega) hd
    obtain ⟨ih1, ih2⟩ := lst_spec n (by omega) hr' t
    have hok := hr n c (by omega) hc
    have hlen : (l.take n).length = n := by simp; omega
    have hget : ∀ (k : Nat) (d : Cl), (l.take n ++ [c])[k]? = some d → (k < n ∧ (l.take n)[k]? = some d ∧ l[k]? = some d) ∨ (k = n ∧ d = c) := fun k d h => by
      rcases Nat.lt_or_ge k n with h1 | h1
      · rw [List.getElem?_append_left (by omega)] at h
        exact .inl ⟨h1, h, by rw [List.getElem?_take_of_lt h1] at h; exact h⟩
      · rw [List.getElem?_append_right (by omega), hlen] at h
        have : k - n = 0 := by
          rcases Nat.eq_zero_or_pos (k - n) with h2 | h2
          · exact h2
          · rw [List.getElem?_eq_none (by simp; omega)] at h; cases h
        rw [this] at h
        simp at h
        exact .inr ⟨by omega, h.symm⟩
    have hcn := cnt_append (l.take n) c t
    rw [take_snoc' hc, lst_append]
    by_cases e : c.th = t
    · rw [if_pos e] at hcn ⊢
      refine ⟨fun h => (by cases h), fun w h => ?_⟩
      cases h
      refine ⟨e, ?_, fun k d hd ht => ?_, n, ?_⟩
      · have := hok.pl; rw [e] at this; omega
      · rcases hget k d hd with ⟨h1, h2, h3⟩ | ⟨rfl, rfl⟩
        · have := hok.th k d h1 h3 (by omega)
          have := hok.f2; omega
        · omega
      · rw [List.getElem?_append_right (by omega), hlen]; simp
    · rw [if_neg e] at hcn ⊢
      refine ⟨fun h => ⟨hcn.trans (ih1 h).1, fun k d hd => ?_⟩, fun w h => ?_⟩
      · rcases hget k d hd with ⟨h1, h2, h3⟩ | ⟨rfl, rfl⟩
        · exact (ih1 h).2 k d h2
        · exact e
      · obtain ⟨a1, a2, a3, k', a4⟩ := ih2 w h
        refine ⟨a1, by rw [hcn]; exact a2, fun k d hd ht => ?_, k', ?_⟩
        · rcases hget k d hd with ⟨h1, h2, h3⟩ | ⟨rfl, rfl⟩
          · exact a3 k d h2 ht
          · exact absurd ht e
        · rw [List.getElem?_append_left (List.getElem?_eq_some_iff.1 a4).1]; exact a4
/-- The moments that were seen. -/
def Sn (l : List Cl) (i : Nat) (x : Int) : Prop := ∃ (k : Nat) (d : Cl), k < i ∧ l[k]? = some d ∧ (d.fr = x ∨ d.to = x)
theorem Sn.succ {l : List Cl} {i : Nat} {c : Cl} (h : l[i]? = some c) (x : Int) : Sn l (i + 1) x ↔ (x = c.to ∨ x = c.fr ∨ Sn l i x) := by
  constructor
  · rintro ⟨k, d, hk, hd, hx⟩
    by_cases e : k = i
    · subst e; rw [h] at hd; cases hd
      rcases hx with hx | hx
      · exact .inr (.inl hx.symm)
      · exact .inl hx.symm
    · exact .inr (.inr ⟨k, d, by omega, hd, hx⟩)
  · rintro (rfl | rfl | ⟨k, d, hk, hd, hx⟩)
    · exact ⟨i, c, by omega, h, .inr rfl⟩
    · exact ⟨i, c, by omega, h, .inl rfl⟩
    · exact ⟨k, d, by omega, hd, hx⟩
/-- What the program looks at. -/
theorem okC_iff {l : List Cl} {i : Nat} {c : Cl} (hr : RtTo l i) (hc : l[i]? = some c) :
    OkC l i c ↔ (1 ≤ c.fr ∧ c.fr < c.to ∧ ¬ Sn l i c.fr ∧ ¬ Sn l i c.to ∧ (∀ d, 0 < i → l[i - 1]? = some d → d.fr < c.fr) ∧ (∀ w, lst (l.take i) c.th = some w → w.pl + 1 = c.pl ∧ w.to < c.fr) ∧ (lst (l.take i) c.th = none → c.pl = 0)) := by
  have hil := (List.getElem?_eq_some_iff.1 hc).1
  obtain ⟨s1, s2⟩ := lst_spec i (by omega) hr c.th
  have htk : ∀ (k : Nat) (d : Cl), k < i → l[k]? = some d → (l.take i)[k]? = some d := fun k d hk hd => by rw [List.getElem?_take_of_lt hk]; exact hd
  have htk' : ∀ (k : Nat) (d : Cl), (l.take i)[k]? = some d → k < i ∧ l[k]? = some d := fun k d hd => by
    have h1 := (List.getElem?_eq_some_iff.1 hd).1
    simp at h1
    exact ⟨by omega, by rw [List.getElem?_take_of_lt (by omega)] at hd; exact hd⟩
  constructor
  · intro h
    have hrs := (hr.succ hc h).rise i
    refine ⟨h.f1, h.f2, ?_, ?_, h.inc, fun w hw => ?_, fun hn => ?_⟩
    · rintro ⟨k, d, hk, hd, hx⟩
      have h1 := hrs k c d (by omega) hk hc hd
      have h2 := h.ne k d hk hd
      rcases hx with hx | hx
      · omega
      · exact h2.2.1 hx
    · rintro ⟨k, d, hk, hd, hx⟩
      have h2 := h.ne k d hk hd
      rcases hx with hx | hx
      · exact h2.2.2 hx
      · exact h2.1 hx
    · obtain ⟨a1, a2, a3, k, a4⟩ := s2 w hw
      obtain ⟨hk, hd⟩ := htk' k w a4
      exact ⟨by rw [h.pl]; omega, h.th k w hk hd a1⟩
    · rw [h.pl, (s1 hn).1]; rfl
  · rintro ⟨h1, h2, h3, h4, h5, h6, h7⟩
    have hsn : ∀ (k : Nat) (d : Cl), k < i → l[k]? = some d → d.to ≠ c.to ∧ d.to ≠ c.fr ∧ d.fr ≠ c.to := fun k d hk hd =>
      ⟨fun e => h4 ⟨k, d, hk, hd, .inr e⟩, fun e => h3 ⟨k, d, hk, hd, .inr e⟩, fun e => h4 ⟨k, d, hk, hd, .inl e⟩⟩
    cases hl : lst (l.take i) c.th with
    | none =>
      obtain ⟨b1, b2⟩ := s1 hl
      exact ⟨h1, h2, h5, hsn, fun k d hk hd ht => absurd ht (b2 k d (htk k d hk hd)), by rw [h7 hl, b1]; rfl⟩
    | some w =>
      obtain ⟨a1, a2, a3, k', a4⟩ := s2 w hl
      obtain ⟨b1, b2⟩ := h6 w hl
      exact ⟨h1, h2, h5, hsn, fun k d hk hd ht => by have := a3 k d (htk k d hk hd) ht; omega, by omega⟩
end Go.Proofs.Ytgcojbgkenndhaa
