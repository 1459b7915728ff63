/- A core's world. -/
import Derived.Test.YtdbgeahmhfocaaaGreatWmk
namespace Go.Proofs.YtdbgeahmhfocaaaGreat
set_option linter.unusedSimpArgs false
set_option linter.unusedVariables false
set_option maxRecDepth 100000
open Go Go.RowKit
section
variable {B : World} {σ : St} {K : Value → St → Prop}
open Classical in
/-- The world's memory: locks, log, queues; and what never changes. -/
noncomputable def coH (q : CB) (lp nr rn : Nat) (rr rb : Nat → Nat) (F : HF) (u : CU) : HF := fun c =>
  if c = q.b then some (.raw (.cells (flat fLk (lksA 12 u.l)).toArray 168 (0, 0)))
  else if c = lp then some (.comp (LogR u.log lp))
  else if h : ∃ i, i < nr ∧ rr i = c then some (.raw (.cells #[.slice (some ⟨rb (Classical.choose h), 0, none⟩) rn rn, .int .i64 ((u.rg (Classical.choose h)).G + (u.rg (Classical.choose h)).L.length : Nat), .int .i64 (u.rg (Classical.choose h)).G, .int .i64 (u.rg (Classical.choose h)).D] 149 (0, 0)))
  else if h : ∃ i, i < nr ∧ rb i = c then some (.raw (.cells (flat fSl (slots (u.rg (Classical.choose h)).L (u.rg (Classical.choose h)).G rn)).toArray 151 (0, 0)))
  else F c
structure CoD (q : CB) (lp nr : Nat) (rr rb : Nat → Nat) : Prop where
  blp : q.b ≠ lp
  hr : ∀ i, i < nr → rr i ≠ q.b ∧ rr i ≠ lp
  hb : ∀ i, i < nr → rb i ≠ q.b ∧ rb i ≠ lp
  ord : ∀ j, j < nr → rr j = rb j + 1 ∧ ∀ k, k < j → rr k < rb j
variable {q : CB} {lp nr rn : Nat} {rr rb : Nat → Nat} {F : HF}
theorem CoD.inj (hd : CoD q lp nr rr rb) {i j : Nat} (hi : i < nr) (hj : j < nr) (he : rr i = rr j) : i = j := by
  obtain ⟨a1, a2⟩ := hd.ord i hi
  obtain ⟨b1, b2⟩ := hd.ord j hj
  have hlt : i = j ∨ i < j ∨ j < i := by omega
  rcases hlt with h | h | h
  · exact h
  · have := b2 i h; omega
  · have := a2 j h; omega
theorem CoD.injb (hd : CoD q lp nr rr rb) {i j : Nat} (hi : i < nr) (hj : j < nr) (he : rb i = rb j) : i = j := by
  refine hd.inj hi hj ?_
  have := (hd.ord i hi).1
  have := (hd.ord j hj).1
  omega
theorem CoD.ne (hd : CoD q lp nr rr rb) {i j : Nat} (hi : i < nr) (hj : j < nr) : rr i ≠ rb j := by
  obtain ⟨a1, a2⟩ := hd.ord i hi
  obtain ⟨b1, b2⟩ := hd.ord j hj
  have hlt : i = j ∨ i < j ∨ j < i := by omega
  rcases hlt with rfl | h | h
  · omega
  · have := b2 i h; omega
  · have := a2 j h; omega
theorem coH_b {u : CU} : coH q lp nr rn rr rb F u q.b = some (.raw (.cells (flat fLk (lksA 12 u.l)).toArray 168 (0, 0))) := by unfold coH; rw [if_pos rfl]
theorem coH_lp (hd : CoD q lp nr rr rb) {u : CU} : coH q lp nr rn rr rb F u lp = some (.comp (LogR u.log lp)) := by unfold coH; rw [if_neg (Ne.symm hd.blp), if_pos rfl]
theorem coH_rr (hd : CoD q lp nr rr rb) {u : CU} {i : Nat} (hi : i < nr) : coH q lp nr rn rr rb F u (rr i) = some (.raw (.cells #[.slice (some ⟨rb i, 0, none⟩) rn rn, .int .i64 ((u.rg i).G + (u.rg i).L.length : Nat), .int .i64 (u.rg i).G, .int .i64 (u.rg i).D] 149 (0, 0))) := by
  have h : ∃ j, j < nr ∧ rr j = rr i := ⟨i, hi, rfl⟩
  have e : Classical.choose h = i := hd.inj (Classical.choose_spec h).1 hi (Classical.choose_spec h).2
  unfold coH
  rw [if_neg (hd.hr i hi).1, if_neg (hd.hr i hi).2, dif_pos h, e]
theorem coH_rb (hd : CoD q lp nr rr rb) {u : CU} {i : Nat} (hi : i < nr) : coH q lp nr rn rr rb F u (rb i) = some (.raw (.cells (flat fSl (slots (u.rg i).L (u.rg i).G rn)).toArray 151 (0, 0))) := by
  have h : ∃ j, j < nr ∧ rb j = rb i := ⟨i, hi, rfl⟩
  have h0 : ¬ ∃ j, j < nr ∧ rr j = rb i := fun ⟨j, hj, e⟩ => hd.ne hj hi e
  have e : Classical.choose h = i := hd.injb (Classical.choose_spec h).1 hi (Classical.choose_spec h).2
  unfold coH
  rw [if_neg (hd.hb i hi).1, if_neg (hd.hb i hi).2, dif_neg h0, dif_pos h, e]
theorem coH_F {u : CU} {c : Nat} (h1 : c ≠ q.b) (h2 : c ≠ lp) (h3 : ∀ i, i < nr → c ≠ rr i ∧ c ≠ rb i) : coH q lp nr rn rr rb F u c = F c := by
  unfold coH
  rw [if_neg h1, if_neg h2, dif_neg fun ⟨i, hi, e⟩ => (h3 i hi).1 e.symm, dif_neg fun ⟨i, hi, e⟩ => (h3 i hi).2 e.symm]
/-- What it tells, case by case. -/
theorem coH_cases (hd : CoD q lp nr rr rb) {u : CU} {c : Nat} {y : HP} (h : coH q lp nr rn rr rb F u c = some y) : c = q.b ∨ c = lp ∨ (∃ i, i < nr ∧ c = rr i) ∨ (∃ i, i < nr ∧ c = rb i) ∨ (F c = some y ∧ c ≠ q.b ∧ c ≠ lp ∧ ∀ i, i < nr → c ≠ rr i ∧ c ≠ rb i) := by
  by_cases h1 : c = q.b
  · exact .inl h1
  · by_cases h2 : c = lp
    · exact .inr (.inl h2)
    · by_cases h3 : ∃ i, i < nr ∧ c = rr i
      · exact .inr (.inr (.inl h3))
      · by_cases h4 : ∃ i, i < nr ∧ c = rb i
        · exact .inr (.inr (.inr (.inl h4)))
        · have h5 : ∀ i, i < nr → c ≠ rr i ∧ c ≠ rb i := fun i hi => ⟨fun e => h3 ⟨i, hi, e⟩, fun e => h4 ⟨i, hi, e⟩⟩
          rw [coH_F h1 h2 h5] at h
          exact .inr (.inr (.inr (.inr ⟨h, h1, h2, h5⟩)))
structure CoF (q : CB) (nr : Nat) (rr : Nat → Nat) (F : HF) : Prop where
  core : ∃ v0 v1 v3 v4 v5 v6 v7 A cap, F q.c = some (.raw (.cells #[v0, v1, .pointer (some ⟨q.g, 0, none⟩), v3, v4, v5, v6, v7, .slice A nr cap, .int .i64 0] 87 (0, 0))) ∧
    (nr ≠ 0 → ∃ rk cs ty, A = some ⟨rk, 0, none⟩ ∧ F rk = some (.raw (.cells cs ty (0, 0))) ∧ ∀ i, i < nr → cs[i]? = some (.pointer (some ⟨rr i, 0, none⟩)))
  gr : F q.g = some (.raw (.cells #[.slice (some ⟨q.b, 0, none⟩) (12 : Nat) (12 : Nat)] 138 (0, 0)))
  /-- It tells nothing of what changes. -/
  off : ∀ c, F c ≠ none → c ≠ q.b ∧ c ≠ lp ∧ ∀ i, i < nr → c ≠ rr i ∧ c ≠ rb i
theorem coYW (hd : CoD q lp nr rr rb) (n8 : nr ≤ 8) (rn1 : 1 ≤ rn) (rn2 : rn ≤ 1024) (hF : CoF (lp := lp) (rb := rb) q nr rr F) : YW ⟨q.c, q.g, q.b, lp⟩ nr rn rr rb (coH q lp nr rn rr rb F) := by
  have hof : ∀ {u : CU} {c : Nat} {y : HP}, F c = some y → coH q lp nr rn rr rb F u c = some y := fun {u c y} h => by
    obtain ⟨h1, h2, h3⟩ := hF.off c (by rw [h]; simp)
    rw [coH_F h1 h2 h3]; exact h
  obtain ⟨v0, v1, v3, v4, v5, v6, v7, A, cap, hc, hr⟩ := hF.core
  refine ⟨n8, rn1, rn2, ⟨v0, v1, v3, v4, v5, v6, v7, _, A, cap, fun u => hof hc, fun hne => ?_⟩, fun u => hof hF.gr, fun u => coH_b, fun u l c hcb => ?_, fun u => coH_lp hd, fun u x c hcl => ?_, fun u i hi => coH_rr hd hi, fun u i hi => coH_rb hd hi, fun u i x c hi h1 h2 => ?_, fun i hi => hd.ne hi hi⟩
  · obtain ⟨rk, cs, ty, e, h1, h2⟩ := hr hne
    exact ⟨rk, cs, ty, e, fun u => hof h1, h2⟩
  · unfold coH; simp only [if_neg hcb]
  · unfold coH; simp only [if_neg hcl]
  · by_cases e1 : c = q.b
    · subst e1; rw [coH_b, coH_b]
    · by_cases e2 : c = lp
      · subst e2; rw [coH_lp hd, coH_lp hd]
      · by_cases e3 : ∃ j, j < nr ∧ c = rr j
        · obtain ⟨j, hj, rfl⟩ := e3
          have : j ≠ i := fun e => h1 (by rw [e])
          rw [coH_rr hd hj, coH_rr hd hj]
          simp only [updL_ne this]
        · by_cases e4 : ∃ j, j < nr ∧ c = rb j
          · obtain ⟨j, hj, rfl⟩ := e4
            have : j ≠ i := fun e => h2 (by rw [e])
            rw [coH_rb hd hj, coH_rb hd hj]
            simp only [updL_ne this]
          · have h5 : ∀ i, i < nr → c ≠ rr i ∧ c ≠ rb i := fun i hi => ⟨fun e => e3 ⟨i, hi, e⟩, fun e => e4 ⟨i, hi, e⟩⟩
            rw [coH_F e1 e2 h5, coH_F e1 e2 h5]
/-- What never changes. -/
def coF (q : CB) (w : Value) (s : St) : HF := fun c => if c = q.c ∨ c = q.g ∨ c = q.e ∨ blk w = some c then s.m c else none
theorem CoreI.coD {R : Nat → RgS} {w : Value} {s : St} (h : CoreI q nr rn R rr rb w s) (hlp : s.m lp = none ∨ ∃ c, s.m lp = some (.comp c)) : CoD q lp nr rr rb := by
  have hx : ∀ {b : Nat} {o : _root_.Go.Obj}, s.m b = some (.raw o) → b ≠ lp := fun hb e => by
    subst e
    rcases hlp with h | ⟨c, h⟩
    · rw [hb] at h; cases h
    · rw [hb] at h; cases h
  exact ⟨hx h.lk, fun i hi => ⟨ne_of (h.ring i hi).root h.lk (by simp), hx (h.ring i hi).root⟩, fun i hi => ⟨ne_of (h.ring i hi).row h.lk (by simp), hx (h.ring i hi).row⟩, fun j hj => (h.ord j hj).2⟩
theorem CoreI.coF {R : Nat → RgS} {w : Value} {s : St} (h : CoreI q nr rn R rr rb w s) (hlp : s.m lp = none ∨ ∃ c, s.m lp = some (.comp c)) (hle : q.e ≠ lp) : CoF (lp := lp) (rb := rb) q nr rr (coF q w s) := by
  have hx : ∀ {b : Nat} {o : _root_.Go.Obj}, s.m b = some (.raw o) → b ≠ lp := fun hb e => by
    subst e
    rcases hlp with h | ⟨c, h⟩
    · rw [hb] at h; cases h
    · rw [hb] at h; cases h
  obtain ⟨p, ro, a0, a1, a2, a3, hc⟩ := h.core
  obtain ⟨A, C, rfl, hC⟩ := h.own.is
  have hcne : ∀ i, i < nr → q.c ≠ rr i ∧ q.c ≠ rb i := fun i hi => by have := h.ord i hi; omega
  refine ⟨⟨_, _, _, _, _, _, _, A, C, (if_pos (.inl rfl)).trans hc, fun hne => ?_⟩, (if_pos (.inr (.inl rfl))).trans h.gr, fun c hcn => ?_⟩
  · obtain ⟨rk, c1, sp, e, hc1, o2, _, _⟩ := h.own.has (by omega)
    cases e
    exact ⟨rk, _, _, rfl, (if_pos (.inr (.inr (.inr rfl)))).trans o2, fun i hi => by rw [List.getElem?_toArray]; exact rgP_get hi sp⟩
  · unfold Go.Proofs.YtdbgeahmhfocaaaGreat.coF at hcn
    split at hcn
    · rename_i hcc
      rcases hcc with rfl | rfl | rfl | hb
      · exact ⟨ne_of hc h.lk (by simp), hx hc, hcne⟩
      · exact ⟨ne_of h.gr h.lk (by simp), hx h.gr, fun i hi => ⟨ne_of h.gr (h.ring i hi).root (by simp), ne_of h.gr (h.ring i hi).row (by simp)⟩⟩
      · exact ⟨ne_of h.ep h.lk (by simp), hle, fun i hi => ⟨ne_of h.ep (h.ring i hi).root (by simp), ne_of h.ep (h.ring i hi).row (by simp)⟩⟩
      · obtain ⟨o, ho⟩ := h.own.at_ hb
        have := (h.hb c hb).1
        have := h.lb
        exact ⟨by omega, hx ho, fun i hi => (h.hb c hb).2 i hi⟩
    · exact absurd rfl hcn
end
end Go.Proofs.YtdbgeahmhfocaaaGreat
