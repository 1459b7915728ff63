/- 'SchedRuns': what the law needs besides the two runs. -/
import Derived.Test.YtgcojbgkenndhaaWorldN
import Derived.Test.YtgcojbgkenndhaaWorldF
import Derived.Test.YtgcojbgkenndhaaRows
namespace Go.Proofs.Ytgcojbgkenndhaa
set_option linter.unusedSimpArgs false
set_option linter.unusedVariables false
set_option maxRecDepth 100000
open Go Go.RowKit
section
variable {B : World} {σ τ : St} {K : Value → St → Prop}
theorem list_choose {α : Type} (P : Nat → α → Prop) : ∀ n, (∀ t, t < n → ∃ p, P t p) → ∃ bs : List α, bs.length = n ∧ ∀ t p, bs[t]? = some p → P t p
  | 0, _ => ⟨[], rfl, fun t p h => by simp at h⟩
  | n + 1, h => by
    obtain ⟨bs, h1, h2⟩ := list_choose P n fun t ht => h t (by omega)
    obtain ⟨p, hp⟩ := h n (by omega)
    refine ⟨bs ++ [p], by simp [h1], fun t q hq => ?_⟩
    by_cases ht : t < n
    · rw [List.getElem?_append_left (by omega)] at hq; exact h2 t q hq
    · have : t = n := by
        have := (List.getElem?_eq_some_iff.1 hq).1
        simp at this; omega
      subst this
      rw [List.getElem?_append_right (by omega), h1, Nat.sub_self] at hq
      simp at hq; subst hq; exact hp
def BxOf (G : Nat → Prop) (s : St) (c : Nat) (y : HP) : Prop := s.m c = some y ∧ ¬ G c ∧ ∃ v ty, y = .raw (.cells v ty (0, 0)) ∧ ty ≠ 115 ∧ ty ≠ 23
/-- A system of chains over the world, from what 'chains' gives; threads of nothing may follow. -/
theorem chr_sys' {n0 q x3 x2 : Nat} {th th' : List (List (Int × Int))} {fs : Nat → List Value} {vs vs' : List Value} {tv : Value} {s : St} {S : WS} {G : Nat → Prop} {Bv : Nat → HP → Prop}
    (hD : Dn n0 x3 x2 th th.length fs vs s) (htv : RdV Bv B th tv) (hBv : ∀ c y, Bv c y → BxOf G s c y) (h3 : s.m x3 = some (.raw (.cells #[.pointer (some ⟨q, 0, none⟩)] 79 (0, 0)))) (h2 : s.m x2 = some (.raw (.cells #[tv] 77 (0, 0)))) (h3n : n0 ≤ x3) (h2n : n0 ≤ x2)
    (hs : Sm th') (hq : s.m q = some (.comp (WoR S q))) (hS : S.D = []) (hqn : q < n0) (hG : ∀ c, G c → c < n0 ∧ c ≠ q) (hn : n0 ≤ s.n)
    (hl1 : th.length ≤ th'.length) (ht1 : ∀ t, t < th.length → th'[t]? = th[t]?) (ht2 : ∀ t, th.length ≤ t → lenT th' t = 0) (hv0 : vs'.length = th'.length) (hv1 : ∀ t, t < th.length → vs'[t]? = vs[t]?) (hv2 : ∀ t v, th.length ≤ t → vs'[t]? = some v → v = .nilFunc) :
    ∃ (fs : Nat → List Value) (hc : Cls B q th' (BxOf G s) fs), (WY hc hs).Inv G (S, fun _ => 0) vs' s := by
  have hlt : ∀ t, t < th.length → lenT th' t = lenT th t := fun t ht => by unfold lenT; rw [List.getD_eq_getElem?_getD, List.getD_eq_getElem?_getD, ht1 t ht]
  have hbox : ∀ c ty v, n0 ≤ c → s.m c = some (.raw (.cells v ty (0, 0))) → ty ≠ 115 ∧ ty ≠ 23 → BxOf G s c (.raw (.cells v ty (0, 0))) := fun c ty v hc hm ht => ⟨hm, fun hg => by have := (hG c hg).1; omega, v, ty, rfl, ht⟩
  have hc : Cls B q th' (BxOf G s) (fun t => if t < th.length then fs t else []) := by
    refine ⟨fun t => ?_, fun t p u hu => ?_, fun c y hb => ?_⟩
    · by_cases ht : t < th.length
      · simp only [ht, if_true]; rw [hlt t ht]; exact hD.fl t ht
      · simp only [ht, if_false]
        rw [ht2 t (by omega)]
        rfl
    · by_cases ht : t < th.length
      · simp only [ht, if_true] at hu
        obtain ⟨b6, b8, e, m6, m8, n6, n8⟩ := (hD.cl t p u ht hu).ex
        have hfl := hD.fl t ht
        have hp := (List.getElem?_eq_some_iff.1 hu).1
        have hl60 := hs.l t (by omega)
        have hn10 := hs.n
        rw [hlt t ht] at hl60
        obtain ⟨l, hl⟩ : ∃ l, th[t]? = some l := ⟨th[t], List.getElem?_eq_getElem ht⟩
        have hlT : lenT th t = l.length := by unfold lenT; rw [List.getD_eq_getElem?_getD, hl]; rfl
        obtain ⟨y, hy⟩ : ∃ y, l[p]? = some y := ⟨l[p]'(by omega), List.getElem?_eq_getElem (by omega)⟩
        have hyi : insT th' t p = y := by
          unfold insT
          rw [List.getD_eq_getElem?_getD, List.getD_eq_getElem?_getD, ht1 t ht, hl]
          show (l[p]?).getD _ = y
          rw [hy]; rfl
        exact ⟨x3, b6, b8, x2, tv, e, hyi ▸ (htv.mono hBv).ins hl hy (by omega) (by omega), hbox _ _ _ h3n h3 (by decide), hbox _ _ _ n6 m6 (by decide), hbox _ _ _ n8 m8 (by decide), hbox _ _ _ h2n h2 (by decide)⟩
      · simp only [ht, if_false] at hu
        simp at hu
    · obtain ⟨_, _, v, ty, e, _⟩ := hb
      exact ⟨v, ty, e⟩
  refine ⟨_, hc, hv0, ⟨fun c hc' => by have := (hG c hc').1; omega⟩, ⟨?_, fun t _ => Nat.zero_le _⟩, ?_⟩
  · show S.D.length = _
    rw [hS, List.length_nil]
    show 0 = tot (fun _ => 0) th'.length
    induction th'.length with
    | zero => rfl
    | succ n ih => rw [tot, ← ih]
  have hvl := hD.len
  obtain ⟨bs, hbl, hbs⟩ := list_choose (fun t p => ∃ v, vs'[t]? = some v ∧ CO G (if t < th.length then fs t else []) v p s ∧ ∀ x b, p = some (x, b) → n0 ≤ x ∧ n0 ≤ b ∧ (∃ v, s.m x = some (.raw (.cells v 115 (0, 0)))) ∧ ∃ v, s.m b = some (.raw (.cells v 23 (0, 0)))) th'.length fun t ht => by
    obtain ⟨v, hv⟩ : ∃ v, vs'[t]? = some v := ⟨vs'[t]'(by omega), List.getElem?_eq_getElem (by omega)⟩
    by_cases htt : t < th.length
    · have hv' := (hv1 t htt).symm.trans hv
      simp only [htt, if_true]
      rcases hD.ch t v hv' with e | ⟨h0, x1, b, cap, sp, h1, h2, h3, h4, h5, h6, h7, h8⟩
      · exact ⟨none, v, hv, .inl e, fun x b h => by cases h⟩
      · exact ⟨some (x1, b), v, hv, .inr ⟨h0, x1, b, cap, sp, rfl, fun hg => by have := (hG _ hg).1; omega, fun hg => by have := (hG _ hg).1; omega, h4, h5, h6, h7⟩, fun x b' h => by cases h; exact ⟨h1, h2, ⟨_, h5⟩, ⟨_, h7⟩⟩⟩
    · simp only [htt, if_false]
      exact ⟨none, v, hv, .inl ⟨rfl, hv2 t v (by omega) hv⟩, fun x b h => by cases h⟩
  have hblk : ∀ c, blksOf bs c → n0 ≤ c ∧ ∃ v ty, s.m c = some (.raw (.cells v ty (0, 0))) ∧ (ty = 115 ∨ ty = 23) := by
    rintro c ⟨x, b, hm, hcc⟩
    obtain ⟨t, ht⟩ := List.getElem?_of_mem hm
    obtain ⟨v, hv, hco, hle⟩ := hbs t _ ht
    obtain ⟨l1, l2, ⟨w1, e1⟩, ⟨w2, e2⟩⟩ := hle x b rfl
    rcases hcc with rfl | rfl
    · exact ⟨l1, _, _, e1, .inl rfl⟩
    · exact ⟨l2, _, _, e2, .inr rfl⟩
  refine ⟨bs, hbl, ⟨hq, fun hg => ?_, fun c y hb => hb.1, fun c y hb hg => ?_⟩, fun t v p hv hp => ?_⟩
  · rcases hg with hg | hg
    · exact (hG q hg).2 rfl
    · have := (hblk q hg).1; omega
  · obtain ⟨hm, hcn, v, ty, rfl, hty1, hty2⟩ := hb
    rcases hg with hg | hg
    · exact hcn hg
    · obtain ⟨_, v', ty', e, hty'⟩ := hblk c hg
      rw [hm] at e
      simp only [Option.some.injEq, HP.raw.injEq, Obj.cells.injEq] at e
      obtain ⟨_, rfl, _⟩ := e
      rcases hty' with h' | h'
      · exact hty1 h'
      · exact hty2 h'
  · obtain ⟨v', hv', hco, _⟩ := hbs t p hp
    rw [hv] at hv'; cases hv'
    exact hco
theorem chr_sys {n0 q : Nat} {th : List (List (Int × Int))} {v : Value} {s : St} {S : WS} {G : Nat → Prop} (h : ChR B (fun _ _ => False) n0 q th v s) (hs : Sm th) (hq : s.m q = some (.comp (WoR S q))) (hS : S.D = []) (hqn : q < n0) (hG : ∀ c, G c → c < n0 ∧ c ≠ q) (hn : n0 ≤ s.n) :
    ∃ (fs : Nat → List Value) (hc : Cls B q th (BxOf G s) fs) (vs : List Value), Own s 94 1 vs vs.length v ∧ vs.length = th.length ∧ (∀ b, blk v = some b → n0 ≤ b) ∧ (WY hc hs).Inv G (S, fun _ => 0) vs s := by
  obtain ⟨x3, x2, fs, vs, tv, ho, hl, hD, htv, h3, h2, h3n, h2n, hvn⟩ := h.ex
  obtain ⟨fs', hc, hI⟩ := chr_sys' (vs' := vs) hD htv (fun _ _ h => h.elim) h3 h2 h3n h2n hs hq hS hqn hG hn (Nat.le_refl _) (fun _ _ => rfl) (fun t ht => by
    unfold lenT
    rw [List.getD_eq_getElem?_getD, List.getElem?_eq_none (by omega)]
    rfl) hl (fun _ _ => rfl) (fun t v ht hv => by have := (List.getElem?_eq_some_iff.1 hv).1; omega)
  exact ⟨fs', hc, vs, ho, hl, hvn, hI⟩
end
end Go.Proofs.Ytgcojbgkenndhaa
