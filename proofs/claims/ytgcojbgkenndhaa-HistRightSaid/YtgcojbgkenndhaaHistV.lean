/- Histories: what a log takes down of threads that end each call ahead of their next one: plain laws. -/
import Derived.Test.YtgcojbgkenndhaaHistQ
namespace Go.Proofs.Ytgcojbgkenndhaa
set_option linter.unusedSimpArgs false
set_option linter.unusedVariables false
open Go Go.RowKit

structure Wl (S : LS) : Prop where
  one : ∀ (j : Nat) (c : Cl), S.l[j]? = some c → 1 ≤ c.fr ∧ c.fr ≤ S.now ∧ (c.to ≠ 0 → c.fr < c.to ∧ c.to ≤ S.now) ∧ c.pl = cnt (S.l.take j) c.th
  two : ∀ (k j : Nat) (d c : Cl), k < j → S.l[k]? = some d → S.l[j]? = some c → d.fr < c.fr ∧ (d.to ≠ 0 → d.to ≠ c.to) ∧ d.to ≠ c.fr ∧ d.fr ≠ c.to ∧ (d.th = c.th → d.to ≠ 0 ∧ d.to < c.fr)
def LS.fin (S : LS) (j : Nat) (c : Cl) (a : CAn) : LS := ⟨S.l.set j { c with an := a, to := S.now + 1 }, S.now + 1⟩
theorem Wl.nil : Wl ⟨[], 0⟩ := ⟨fun j c h => by simp at h, fun k j d c _ h => by simp at h⟩
theorem Wl.begin {S : LS} (h : Wl S) {t : Int} (op : COp) (hn : S.l.length ≤ S.now) (ht : ∀ (j : Nat) (c : Cl), S.l[j]? = some c → c.th = t → c.to ≠ 0) : Wl (S.begin t op) := by
  have hg : ∀ (j : Nat) (c : Cl), (S.begin t op).l[j]? = some c → (j < S.l.length ∧ S.l[j]? = some c) ∨ (j = S.l.length ∧ c = ⟨t, cnt S.l t, op, an0, S.now + 1, 0⟩) := fun j c hc => by
    simp only [LS.begin] at hc
    rcases Nat.lt_or_ge j S.l.length with h1 | h1
    · rw [List.getElem?_append_left h1] at hc; exact .inl ⟨h1, hc⟩
    · rw [List.getElem?_append_right h1] at hc
      have : j - S.l.length = 0 := by
        rcases Nat.eq_zero_or_pos (j - S.l.length) with h2 | h2
        · exact h2
        · rw [List.getElem?_eq_none (by simp; omega)] at hc; cases hc
      rw [this] at hc
      simp at hc
      exact .inr ⟨by omega, hc.symm⟩
  have hnow : ((S.begin t op).now : Int) = S.now + 1 := rfl
  refine ⟨fun j c hc => ?_, fun k j d c hkj hd hc => ?_⟩
  · rcases hg j c hc with ⟨h1, h2⟩ | ⟨rfl, rfl⟩
    · obtain ⟨a1, a2, a3, a4⟩ := h.one j c h2
      refine ⟨a1, by omega, fun h0 => ?_, ?_⟩
      · obtain ⟨b1, b2⟩ := a3 h0; exact ⟨b1, by omega⟩
      · rw [a4]
        simp only [LS.begin]
        rw [List.take_append_of_le_length (by omega)]
    · refine ⟨by simp only; omega, by simp only; omega, fun h0 => absurd rfl h0, ?_⟩
      simp only [LS.begin]
      rw [List.take_append_of_le_length (Nat.le_refl _), List.take_length]
  · rcases hg j c hc with ⟨h1, h2⟩ | ⟨rfl, rfl⟩
    · rcases hg k d hd with ⟨h3, h4⟩ | ⟨rfl, rfl⟩
      · exact h.two k j d c hkj h4 h2
      · omega
    · rcases hg k d hd with ⟨h3, h4⟩ | ⟨rfl, rfl⟩
      · obtain ⟨a1, a2, a3, a4⟩ := h.one k d h4
        refine ⟨by simp only; omega, fun h0 => h0, ?_, by simp only; omega, fun e => ?_⟩
        · simp only
          by_cases h0 : d.to = 0
          · omega
          · have := a3 h0; omega
        · have h0 := ht k d h4 e
          have := a3 h0
          exact ⟨h0, by simp only; omega⟩
      · omega
theorem Wl.fin {S : LS} (h : Wl S) {j : Nat} {c : Cl} (a : CAn) (hc : S.l[j]? = some c) (h0 : c.to = 0) : Wl (S.fin j c a) := by
  have hj := (List.getElem?_eq_some_iff.1 hc).1
  have hg : ∀ (k : Nat) (d : Cl), (S.fin j c a).l[k]? = some d → (k ≠ j ∧ S.l[k]? = some d) ∨ (k = j ∧ d = { c with an := a, to := S.now + 1 }) := fun k d hd => by
    simp only [LS.fin] at hd
    by_cases e : k = j
    · subst e
      rw [List.getElem?_set_self hj] at hd
      exact .inr ⟨rfl, (Option.some.inj hd).symm⟩
    · rw [List.getElem?_set_ne (Ne.symm e)] at hd
      exact .inl ⟨e, hd⟩
  have hcnt : ∀ (n : Nat) (t : Int), cnt ((S.fin j c a).l.take n) t = cnt (S.l.take n) t := fun n t => by
    simp only [LS.fin]
    rw [List.take_set]
    by_cases hn : j < n
    · exact cnt_set (c := c) (c' := { c with an := a, to := S.now + 1 }) (by rw [List.getElem?_take_of_lt hn]; exact hc) rfl t
    · rw [List.set_eq_of_length_le (by simp; omega)]
  have hnow : ((S.fin j c a).now : Int) = S.now + 1 := rfl
  obtain ⟨e1, e2, e3, e4⟩ := h.one j c hc
  refine ⟨fun k d hd => ?_, fun k i d f hki hd hf => ?_⟩
  · rw [hcnt]
    rcases hg k d hd with ⟨h1, h2⟩ | ⟨rfl, rfl⟩
    · obtain ⟨a1, a2, a3, a4⟩ := h.one k d h2
      refine ⟨a1, by omega, fun h0 => ?_, a4⟩
      obtain ⟨b1, b2⟩ := a3 h0; exact ⟨b1, by omega⟩
    · exact ⟨e1, by simp only; omega, fun _ => ⟨by simp only; omega, by simp only; omega⟩, e4⟩
  · rcases hg k d hd with ⟨h1, h2⟩ | ⟨rfl, rfl⟩
    · rcases hg i f hf with ⟨h3, h4⟩ | ⟨rfl, rfl⟩
      · exact h.two k i d f hki h2 h4
      · obtain ⟨b1, b2, b3, b4, b5⟩ := h.two k i d c hki h2 hc
        obtain ⟨a1, a2, a3, a4⟩ := h.one k d h2
        refine ⟨b1, fun h0 => ?_, b3, by simp only; omega, b5⟩
        have := a3 h0
        simp only; omega
    · rcases hg i f hf with ⟨h3, h4⟩ | ⟨rfl, rfl⟩
      · obtain ⟨b1, b2, b3, b4, b5⟩ := h.two k i c f hki hc h4
        obtain ⟨a1, a2, a3, a4⟩ := h.one i f h4
        refine ⟨b1, fun _ => ?_, by simp only; omega, b4, fun e => ?_⟩
        · simp only
          by_cases hz : f.to = 0
          · omega
          · have := a3 hz; omega
        · exact absurd h0 (b5 e).1
      · omega
theorem Wl.right {S : LS} (h : Wl S) (ha : ∀ (j : Nat) (c : Cl), S.l[j]? = some c → c.to ≠ 0) : Rt S.l := fun i c hc => by
  obtain ⟨a1, a2, a3, a4⟩ := h.one i c hc
  refine ⟨a1, (a3 (ha i c hc)).1, fun d hi hd => (h.two (i - 1) i d c (by omega) hd hc).1, fun k d hk hd => ?_, fun k d hk hd ht => ((h.two k i d c hk hd hc).2.2.2.2 ht).2, a4⟩
  obtain ⟨b1, b2, b3, b4, b5⟩ := h.two k i d c hk hd hc
  exact ⟨b2 (ha k d hd), b3, b4⟩

/-- Which call of each thread is open: its number, or 0. -/
structure Opn4 (S : LS) (ids : List Int) : Prop where
  len : ids.length = 4
  th : ∀ (j : Nat) (c : Cl), S.l[j]? = some c → ∃ t : Nat, c.th = t ∧ t < 4
  id : ∀ (t : Nat) (x : Int), ids[t]? = some x → (x = 0 ∧ ∀ (j : Nat) (c : Cl), S.l[j]? = some c → c.th = t → c.to ≠ 0) ∨
    ∃ (j : Nat) (c : Cl), x = j + 1 ∧ S.l[j]? = some c ∧ c.th = t ∧ c.to = 0 ∧ ∀ (k : Nat) (d : Cl), S.l[k]? = some d → d.th = t → k ≠ j → d.to ≠ 0
theorem Opn4.nil : Opn4 ⟨[], 0⟩ [0, 0, 0, 0] := ⟨rfl, fun j c h => by simp at h, fun t x hx => .inl ⟨by
  match t, hx with
  | 0, hx => simpa using hx.symm
  | 1, hx => simpa using hx.symm
  | 2, hx => simpa using hx.symm
  | 3, hx => simpa using hx.symm
  | t + 4, hx => simp at hx, fun j c h => by simp at h⟩⟩
theorem begin_get {S : LS} {t : Int} {op : COp} {j : Nat} {c : Cl} (hc : (S.begin t op).l[j]? = some c) : (j < S.l.length ∧ S.l[j]? = some c) ∨ (j = S.l.length ∧ c = ⟨t, cnt S.l t, op, an0, S.now + 1, 0⟩) := by
  simp only [LS.begin] at hc
  rcases Nat.lt_or_ge j S.l.length with h1 | h1
  · rw [List.getElem?_append_left h1] at hc; exact .inl ⟨h1, hc⟩
  · rw [List.getElem?_append_right h1] at hc
    have : j - S.l.length = 0 := by
      rcases Nat.eq_zero_or_pos (j - S.l.length) with h2 | h2
      · exact h2
      · rw [List.getElem?_eq_none (by simp; omega)] at hc; cases hc
    rw [this] at hc
    simp at hc
    exact .inr ⟨by omega, hc.symm⟩
theorem fin_get {S : LS} {j : Nat} {c : Cl} {a : CAn} (hj : j < S.l.length) {k : Nat} {d : Cl} (hd : (S.fin j c a).l[k]? = some d) : (k ≠ j ∧ S.l[k]? = some d) ∨ (k = j ∧ d = { c with an := a, to := S.now + 1 }) := by
  simp only [LS.fin] at hd
  by_cases e : k = j
  · subst e
    rw [List.getElem?_set_self hj] at hd
    exact .inr ⟨rfl, (Option.some.inj hd).symm⟩
  · rw [List.getElem?_set_ne (Ne.symm e)] at hd
    exact .inl ⟨e, hd⟩
theorem Opn4.begin {S : LS} {ids : List Int} (h : Opn4 S ids) {t : Nat} (op : COp) (ht : t < 4) (h0 : ids[t]? = some 0) : Opn4 (S.begin t op) (ids.set t (S.l.length + 1)) := by
  have hl := h.len
  refine ⟨by simpa using hl, fun j c hc => ?_, fun t' x hx => ?_⟩
  · rcases begin_get hc with ⟨h1, h2⟩ | ⟨rfl, rfl⟩
    · exact h.th j c h2
    · exact ⟨t, rfl, ht⟩
  · by_cases e : t' = t
    · subst e
      rw [List.getElem?_set_self (by omega)] at hx
      cases hx
      refine .inr ⟨S.l.length, ⟨t', cnt S.l t', op, an0, S.now + 1, 0⟩, rfl, by simp [LS.begin], rfl, rfl, fun k d hd hdt hk => ?_⟩
      rcases begin_get hd with ⟨h1, h2⟩ | ⟨rfl, rfl⟩
      · rcases h.id t' 0 h0 with ⟨_, h3⟩ | ⟨j, c, h3, _⟩
        · exact h3 k d h2 hdt
        · omega
      · exact absurd rfl hk
    · rw [List.getElem?_set_ne (Ne.symm e)] at hx
      rcases h.id t' x hx with ⟨h1, h2⟩ | ⟨j, c, h1, h2, h3, h4, h5⟩
      · refine .inl ⟨h1, fun j c hc hct => ?_⟩
        rcases begin_get hc with ⟨h3, h4⟩ | ⟨rfl, rfl⟩
        · exact h2 j c h4 hct
        · simp only at hct; omega
      · refine .inr ⟨j, c, h1, ?_, h3, h4, fun k d hd hdt hk => ?_⟩
        · simp only [LS.begin]
          rw [List.getElem?_append_left (List.getElem?_eq_some_iff.1 h2).1]; exact h2
        · rcases begin_get hd with ⟨h6, h7⟩ | ⟨rfl, rfl⟩
          · exact h5 k d h7 hdt hk
          · simp only at hdt; omega
theorem Opn4.fin {S : LS} {ids : List Int} (h : Opn4 S ids) {t j : Nat} {c : Cl} (a : CAn) (ht : t < 4) (hj : ids[t]? = some ((j : Int) + 1)) (hc : S.l[j]? = some c) : Opn4 (S.fin j c a) (ids.set t 0) := by
  have hl := h.len
  have hjl := (List.getElem?_eq_some_iff.1 hc).1
  obtain ⟨hct, hoth⟩ : c.th = t ∧ ∀ (k : Nat) (d : Cl), S.l[k]? = some d → d.th = t → k ≠ j → d.to ≠ 0 := by
    rcases h.id t _ hj with ⟨h1, _⟩ | ⟨j', c', h1, h2, h3, h4, h5⟩
    · omega
    · have : j = j' := by omega
      subst this
      rw [hc] at h2; cases h2
      exact ⟨h3, h5⟩
  refine ⟨by simpa using hl, fun k d hd => ?_, fun t' x hx => ?_⟩
  · rcases fin_get hjl hd with ⟨h1, h2⟩ | ⟨rfl, rfl⟩
    · exact h.th k d h2
    · exact h.th k c hc
  · by_cases e : t' = t
    · subst e
      rw [List.getElem?_set_self (by omega)] at hx
      cases hx
      refine .inl ⟨rfl, fun k d hd hdt => ?_⟩
      rcases fin_get hjl hd with ⟨h1, h2⟩ | ⟨rfl, rfl⟩
      · exact hoth k d h2 hdt h1
      · simp only; omega
    · rw [List.getElem?_set_ne (Ne.symm e)] at hx
      rcases h.id t' x hx with ⟨h1, h2⟩ | ⟨j', c', h1, h2, h3, h4, h5⟩
      · refine .inl ⟨h1, fun k d hd hdt => ?_⟩
        rcases fin_get hjl hd with ⟨h3, h4⟩ | ⟨rfl, rfl⟩
        · exact h2 k d h4 hdt
        · simp only; omega
      · have hjj : j' ≠ j := fun e2 => by
          subst e2; rw [hc] at h2; cases h2; omega
        refine .inr ⟨j', c', h1, ?_, h3, h4, fun k d hd hdt hk => ?_⟩
        · simp only [LS.fin]
          rw [List.getElem?_set_ne (Ne.symm hjj)]; exact h2
        · rcases fin_get hjl hd with ⟨h6, h7⟩ | ⟨rfl, rfl⟩
          · exact h5 k d h7 hdt hk
          · simp only; omega
end Go.Proofs.Ytgcojbgkenndhaa
