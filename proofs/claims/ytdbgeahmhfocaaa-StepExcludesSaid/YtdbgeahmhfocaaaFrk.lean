/- A system grows by one thread. -/
import Derived.Test.YtdbgeahmhfocaaaWld
namespace Go.Proofs.Ytdbgeahmhfocaaa
set_option linter.unusedSimpArgs false
set_option linter.unusedVariables false
set_option maxRecDepth 100000
open Go Go.RowKit
section
variable {B : World} {L : Lg B} {G : Nat → Prop} {s : St}
def noH : HF := fun _ => none
theorem LgI.fork {k : Nat} {x : L.U × (Nat → List L.A)} {vs : List Value} {s0 s1 : St} (hI : LgI L k G x vs s0) (hw0 : s0.wf B) (hm : ∀ c, c < s0.n → s1.m c = s0.m c) (hn : s0.n ≤ s1.n) (hw1 : s1.wf B) :
    ∃ G' : Nat → Prop, (∀ c, G c → G' c) ∧ Env L (grow noH s0 s1) G' x.1 s1 ∧
      ∀ (T : List L.A) (n : Nat) (v : Value) (s2 : St), Aft L (Rep L k n T) G' x.1 s1 v s2 → LgI L (k + 1) G (x.1, updL x.2 k T) (vs ++ [v]) s2 := by
  obtain ⟨hs, h1, h2, h3, h4, h5⟩ := hI.hs
  have hlt : ∀ t c, hs t c ≠ none → c < s0.n := fun t c hc => by
    cases hx : hs t c with
    | none => exact absurd hx hc
    | some y => exact (hw0.2 _ _ (h1 _ _ _ hx)).2
  have he0 : Env L noH (fun c => G c ∨ ∃ t, t < k ∧ hs t c ≠ none) x.1 s0 :=
    ⟨hw0, fun c y hc => (by cases hc), fun c _ => rfl, fun c hc => by
      rcases hc with hc | ⟨t, _, ht⟩
      · exact hI.lt c hc
      · exact hlt t c ht, L.weak h4 fun c hc => by
      rcases hc with (hc | ⟨t, _, ht⟩) | hc
      · exact .inl hc
      · exact .inr ⟨t, ht⟩
      · exact absurd rfl hc⟩
  refine ⟨_, fun c hc => .inl hc, he0.grow hm hn hw1, fun T n v s2 ha => ?_⟩
  obtain ⟨n1, k1, h', r1, s1', d1, i1⟩ := ha
  refine ⟨by simp [hI.len], fun c hc => by have := hI.lt c hc; omega, fun j => if j < k then hs j else if j = k then h' else noH, fun j c y hj => ?_, fun j c hc => ?_, fun j j' c hj hx => ?_, L.weak i1 fun c hc => ?_, fun j v' hj => ?_⟩
  · simp only at hj
    split at hj
    · rename_i hjk
      have hx := h1 j c y hj
      exact k1 c y (.inr ⟨j, hjk, by rw [hj]; simp⟩) (by rw [hm c (hw0.2 _ _ hx).2]; exact hx)
    · split at hj
      · exact s1' c y hj
      · cases hj
  · show (if j < k then hs j else if j = k then h' else noH) c = none
    split
    · exact h2 j c hc
    · split
      · exact d1 c (.inl hc)
      · rfl
  · show (if j' < k then hs j' else if j' = k then h' else noH) c = none
    have hx : (if j < k then hs j else if j = k then h' else noH) c ≠ none := hx
    split at hx
    · rename_i hjk
      split
      · exact h3 j j' c hj hx
      · split
        · exact d1 c (.inr ⟨j, hjk, hx⟩)
        · rfl
    · split at hx
      · rename_i hjk
        split
        · rename_i hjk'
          cases hx2 : hs j' c with
          | none => rfl
          | some y => exact absurd (d1 c (.inr ⟨j', hjk', by rw [hx2]; simp⟩)) hx
        · split
          · omega
          · rfl
      · exact absurd rfl hx
  · rcases hc with hc | ⟨j, hc⟩
    · exact .inl (.inl hc)
    · have hc : (if j < k then hs j else if j = k then h' else noH) c ≠ none := hc
      split at hc
      · rename_i hjk; exact .inl (.inr ⟨j, hjk, hc⟩)
      · split at hc
        · exact .inr hc
        · exact absurd rfl hc
  · have hl := hI.len
    by_cases hjk : j < k
    · rw [List.getElem?_append_left (by omega)] at hj
      obtain ⟨m, hm'⟩ := h5 j v' hj
      refine ⟨m, ?_⟩
      simp only [if_pos hjk, updL, if_neg (show ¬ j = k by omega)]
      exact hm'
    · have hje : j = k := by
        have := (List.getElem?_eq_some_iff.1 hj).1
        simp only [List.length_append, List.length_cons, List.length_nil, hl] at this
        omega
      subst hje
      rw [List.getElem?_append_right (by omega), hl, Nat.sub_self] at hj
      cases hj
      refine ⟨n, ?_⟩
      simp only [if_neg hjk, if_true, updL]
      exact r1
/-! ### A world with one block more that stays as it is -/
section
variable {U A : Type} {ex : Nat → U → A → U × List A × Bool} {H H' : U → HF} {q : Nat} {y : HP}
theorem Rep.ext (hq : ∀ u, H u q = none) (hH : ∀ u c, H' u c = if c = q then some y else H u c) {t : Nat} : ∀ {n : Nat} {T : List A} {v : Value} {h : HF}, Rep (hLg (B := B) U A ex H) t n T v h → Rep (hLg (B := B) U A ex H') t n T v h
  | 0, _, _, _, hr => hr
  | n + 1, [], _, _, hr => hr
  | n + 1, a :: r, v, h, hr => by
    obtain ⟨f, c1, c2, hv, hc⟩ := hr
    refine ⟨f, c1, c2, hv, fun G (u : U) s he => ?_⟩
    have hHq : H' u q = some y := by rw [hH, if_pos rfl]
    obtain ⟨a1, a2, a3⟩ := he.at hHq
    have he2 : Env (hLg (B := B) U A ex H) h (fun c => G c ∨ c = q) u s := by
      refine ⟨he.wf, he.sub, fun c hc => ?_, fun c hc => ?_, fun c z hz => ?_⟩
      · rcases hc with hc | rfl
        · exact he.dis c hc
        · exact a3
      · rcases hc with hc | rfl
        · exact he.lt c hc
        · exact (he.wf.2 _ _ a1).2
      · have hcq : c ≠ q := fun e => by rw [e, hq] at hz; cases hz
        have hz' : H' u c = some z := by rw [hH, if_neg hcq]; exact hz
        obtain ⟨b1, b2, b3⟩ := he.at hz'
        refine ⟨b1, fun hc => ?_⟩
        rcases hc with (hc | hc) | hc
        · exact b2 hc
        · exact hcq hc
        · exact hc b3
    have post : ∀ (R : Value → HF → Prop) (u' : U) v' s', Aft (hLg (B := B) U A ex H) R (fun c => G c ∨ c = q) u' s v' s' → Aft (hLg (B := B) U A ex H') R G u' s v' s' := by
      rintro R u' v' s' ⟨n1, k1, h', r1, s1, d1, i1⟩
      refine ⟨n1, fun c z hc hx => k1 c z (.inl hc) hx, h', r1, s1, fun c hc => d1 c (.inl hc), fun c z hz => ?_⟩
      rw [hH] at hz
      split at hz
      · rename_i e; subst e
        cases hz
        exact ⟨k1 _ _ (.inr rfl) a1, fun hc => hc.elim a2 fun hc => hc (d1 _ (.inr rfl))⟩
      · obtain ⟨b1, b2⟩ := i1 c z hz
        exact ⟨b1, fun hc => b2 (hc.imp .inl id)⟩
    refine (hc _ u s he2).mono fun rv s' ⟨h1, h3⟩ => ⟨fun ho => ?_, fun ho => ?_⟩
    · obtain ⟨v', e1, h4⟩ := h1 ho
      exact ⟨v', e1, (post _ _ _ _ h4).mono fun h hr => Rep.ext hq hH hr⟩
    · obtain ⟨e1, h4⟩ := h3 ho
      exact ⟨e1, post _ _ _ _ h4⟩
theorem LgI.ext (hq : ∀ u, H u q = none) (hH : ∀ u c, H' u c = if c = q then some y else H u c) {k : Nat} {x : U × (Nat → List A)} {vs : List Value} {s0 s1 : St} (hI : LgI (hLg (B := B) U A ex H) k G x vs s0) (hw0 : s0.wf B) (hm : ∀ c, c < s0.n → s1.m c = s0.m c) (hn : s0.n ≤ s1.n)
    (hqn : s0.n ≤ q) (hy : s1.m q = some y) : LgI (hLg (B := B) U A ex H') k G x vs s1 := by
  obtain ⟨hs, h1, h2, h3, h4, h5⟩ := hI.hs
  have hk : ∀ c z, s0.m c = some z → s1.m c = some z := fun c z hx => by rw [hm c (hw0.2 _ _ hx).2]; exact hx
  refine ⟨hI.len, fun c hc => by have := hI.lt c hc; omega, hs, fun t c z hx => hk _ _ (h1 t c z hx), h2, h3, fun c z hz => ?_, fun t v hv => let ⟨m, hm⟩ := h5 t v hv; ⟨m, hm.ext hq hH⟩⟩
  rw [hH] at hz
  split at hz
  · rename_i e; subst e
    cases hz
    refine ⟨hy, fun hc => ?_⟩
    rcases hc with hc | ⟨t, hc⟩
    · have := hI.lt c hc; omega
    · cases hx : hs t c with
      | none => exact hc hx
      | some w => have := (hw0.2 _ _ (h1 _ _ _ hx)).2; omega
  · obtain ⟨b1, b2⟩ := h4 c z hz
    exact ⟨hk _ _ b1, b2⟩
end
/-- Something is appended to a slice that is kept. -/
theorem Sys.inv_app {Y : Sys B} {P : Nat → Prop} {x : Y.X} {vs : List Value} {w w' : Value} {s2 s' : St} (hI : Y.Inv (fun c => P c ∨ blk w = some c) x vs s2) (hw : s2.wf B) (heq : ∀ c, c < s2.n → blk w ≠ some c → s'.m c = s2.m c)
    (hb : ∀ b, blk w' = some b → s2.n ≤ b ∨ blk w = some b) (hn : s2.n ≤ s'.n) (hlt : ∀ b, blk w' = some b → b < s'.n) : Y.Inv (fun c => P c ∨ blk w' = some c) x vs s' := by
  have hI2 := Y.stable hI (s' := s2.up s'.n) (fun c y _ hx => hx) hn
  have hno : ∀ c, s2.n ≤ c → s2.m c = none := fun c hc => by
    cases hx : s2.m c with
    | none => rfl
    | some y => have := (hw.2 _ _ hx).2; omega
  cases e : blk w' with
  | none =>
    refine Y.weak (Y.stable hI2 (s' := s') (fun c y hc hx => ?_) (Nat.le_refl _)) fun c hc => hc.elim .inl fun h => (by cases h)
    have hx' : s2.m c = some y := hx
    rw [heq c (hw.2 _ _ hx').2 fun e => hc (.inr e)]; exact hx'
  | some b' =>
    rcases hb b' e with h | h
    · have h3 := Y.fresh hI2 (q := b') (hno b' h) (hlt b' e)
      refine Y.weak (Y.stable h3 (s' := s') (fun c y hc hx => ?_) (Nat.le_refl _)) fun c hc => hc.elim (fun h => .inl (.inl h)) fun h => .inr (Option.some.inj h).symm
      have hx' : s2.m c = some y := hx
      rw [heq c (hw.2 _ _ hx').2 fun e => hc (.inl (.inr e))]; exact hx'
    · refine Y.weak (Y.stable hI2 (s' := s') (fun c y hc hx => ?_) (Nat.le_refl _)) fun c hc => hc.elim .inl fun h' => .inr (h.trans h')
      have hx' : s2.m c = some y := hx
      rw [heq c (hw.2 _ _ hx').2 fun e => hc (.inr e)]; exact hx'
theorem OrdV.own {h : HF} {s : St} {v : Value} {os : List Int} (ho : Own s 3 1 (ints os) os.length v) (hh : ∀ b y, blk v = some b → s.m b = some y → ∀ G u s', Env L h G u s' → s'.m b = some y) : OrdV L h v os := by
  obtain ⟨A, c, rfl, hc⟩ := ho.is
  refine ⟨A, c, rfl, hc, fun hne => ?_⟩
  have hl : 0 < os.length := by cases os with | nil => exact absurd rfl hne | cons a l => simp
  obtain ⟨b, c1, sp, e1, _, m1, _, _⟩ := ho.has hl
  cases e1
  exact ⟨b, 0, _, _, rfl, hh b _ rfl m1, fun j x hj => by rw [Nat.zero_add, List.getElem?_toArray]; exact ints_get hj sp⟩
theorem OrdV.lit {h : HF} {b : Nat} {x : Int} {ty : TypeId} (hb : h b = some (.raw (.cells #[.int .i64 x] ty (0, 0)))) : OrdV L h (.slice (some ⟨b, 0, none⟩) 1 1) [x] := by
  refine ⟨_, 1, rfl, Nat.le_refl _, fun _ => ⟨b, 0, _, ty, rfl, fun _ _ _ he => he.sub _ _ hb, fun j y hj => ?_⟩⟩
  match j, hj with
  | 0, hj => cases hj; rfl
  | j + 1, hj => cases hj
theorem lgI_empty {U A : Type} {ex : Nat → U → A → U × List A × Bool} {H : U → HF} {u : U} (hlt : ∀ c, G c → c < s.n) (hH : ∀ c y, H u c = some y → s.m c = some y ∧ ¬ G c) : LgI (hLg (B := B) U A ex H) 0 G (u, fun _ => []) [] s :=
  ⟨rfl, hlt, fun _ => noH, fun _ c y hc => (by cases hc), fun _ _ _ => rfl, fun _ _ _ _ hc => absurd rfl hc, fun c y hy => ⟨(hH c y hy).1, fun hc => hc.elim (hH c y hy).2 fun ⟨_, ht⟩ => ht rfl⟩, fun t v hv => by simp at hv⟩
end
end Go.Proofs.Ytdbgeahmhfocaaa
