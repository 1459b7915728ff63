/- Threads that take turns: systems of chains of functions over a world. -/
import Derived.Test.YtgcojbgkenndhaaMachC
namespace Go.Proofs.Ytgcojbgkenndhaa
set_option linter.unusedSimpArgs false
set_option linter.unusedVariables false
set_option maxRecDepth 100000
open Go Go.RowKit
def updAt (at_ : Nat → Nat) (t : Nat) : Nat → Nat := fun u => if u = t then at_ t + 1 else at_ u
/-- A world, and for each thread a list of functions that work on it. -/
structure Cs (B : World) where
  W : Type
  n : Nat
  fns : Nat → List Value
  act : W → Nat → Nat → W × Bool
  WI : (Nat → Prop) → W → St → Prop
  okx : W → (Nat → Nat) → Prop
  okstep : ∀ {w px t}, okx w px → t < n → px t < (fns t).length → okx (act w t (px t)).1 (if (act w t (px t)).2 then updAt px t else px)
  small : ∀ t, (fns t).length ≤ 100000
  isf : ∀ t, ∀ u ∈ fns t, isFn u = true ∧ StV u
  fresh : ∀ {G w s q}, WI G w s → s.m q = none → q < s.n → WI (fun c => G c ∨ c = q) w s
  weak : ∀ {G G' w s}, WI G' w s → (∀ c, G c → G' c) → WI G w s
  stable : ∀ {G w s s'}, WI G w s → (∀ c y, ¬ G c → s.m c = some y → s'.m c = some y) → s.n ≤ s'.n → WI G w s'
  call : ∀ {G w s t px g c1 c2}, s.wf B → WI G w s → okx w px → t < n → (fns t)[px t]? = some (.func (.func g) c1 c2) →
    Fn Try.prog B g (c1 ++ c2) s fun r s' => r = .bool (act w t (px t)).2 ∧ WI G (act w t (px t)).1 s' ∧ s.n ≤ s'.n ∧ ∀ c y, G c → s.m c = some y → s'.m c = some y
/-- A thread's chain: at 'at_', with its two blocks. -/
def CO (G : Nat → Prop) (fs : List Value) (v : Value) (p : Option (Nat × Nat)) (s : St) : Prop :=
  (fs = [] ∧ v = .nilFunc) ∨ (fs ≠ [] ∧ ∃ x1 b cap sp, p = some (x1, b) ∧ ¬ G x1 ∧ ¬ G b ∧ v = .func (.func 68) #[] #[.pointer (some ⟨x1, 0, none⟩)] ∧
    s.m x1 = some (.raw (.cells #[.slice (some ⟨b, 0, none⟩) fs.length cap] 115 (0, 0))) ∧ fs.length ≤ cap ∧ s.m b = some (.raw (.cells (fs ++ sp).toArray 23 (0, 0))))
def blksOf (bs : List (Option (Nat × Nat))) (c : Nat) : Prop := ∃ x b, some (x, b) ∈ bs ∧ (c = x ∨ c = b)
theorem CO.keep {G G' : Nat → Prop} {fs : List Value} {v : Value} {p : Option (Nat × Nat)} {s s' : St} (h : CO G fs v p s) (hG : ∀ c, G' c → G c) (hk : ∀ c y, (∃ x b, p = some (x, b) ∧ (c = x ∨ c = b)) → s.m c = some y → s'.m c = some y) : CO G' fs v p s' := by
  rcases h with h | ⟨h0, x1, b, cap, sp, hp, h1, h2, h3, h4, h5, h6⟩
  · exact .inl h
  · exact .inr ⟨h0, x1, b, cap, sp, hp, fun h => h1 (hG _ h), fun h => h2 (hG _ h), h3, hk _ _ ⟨x1, b, hp, .inl rfl⟩ h4, h5, hk _ _ ⟨x1, b, hp, .inr rfl⟩ h6⟩
variable {B : World}
/-- What is kept lies below. -/
structure Bd (G : Nat → Prop) (s : St) : Prop where
  bd : ∀ c, G c → c < s.n
theorem Bd.add {G : Nat → Prop} {s : St} {q : Nat} (h : Bd G s) (hq : q < s.n) : Bd (fun c => G c ∨ c = q) s := ⟨fun c hc => by
  rcases hc with h1 | h1
  · exact h.bd c h1
  · omega⟩
structure CInv (Z : Cs B) (G : Nat → Prop) (x : Z.W × (Nat → Nat)) (vs : List Value) (s : St) : Prop where
  len : vs.length = Z.n
  bd : Bd G s
  ok : Z.okx x.1 x.2
  ch : ∃ bs : List (Option (Nat × Nat)), bs.length = Z.n ∧ Z.WI (fun c => G c ∨ blksOf bs c) x.1 s ∧ ∀ t v p, vs[t]? = some v → bs[t]? = some p → CO G ((Z.fns t).drop (x.2 t)) v p s
theorem blks_mem {bs : List (Option (Nat × Nat))} {t : Nat} {p : Option (Nat × Nat)} {c : Nat} (h : bs[t]? = some p) (hc : ∃ x b, p = some (x, b) ∧ (c = x ∨ c = b)) : blksOf bs c := by
  obtain ⟨x, b, rfl, hc⟩ := hc
  exact ⟨x, b, List.mem_of_getElem? h, hc⟩
set_option maxHeartbeats 4000000 in
def chainSys (Z : Cs B) : Sys B where
  X := Z.W × (Nat → Nat)
  n := Z.n
  live := fun x t => decide (t < Z.n ∧ x.2 t < (Z.fns t).length)
  tr := fun x t => (((Z.act x.1 t (x.2 t)).1, if (Z.act x.1 t (x.2 t)).2 then updAt x.2 t else x.2), (Z.act x.1 t (x.2 t)).2)
  Inv := fun G x vs s => CInv Z G x vs s
  len := fun h => h.len
  val := by
    intro G x vs s t v h hv
    obtain ⟨bs, hbl, hW, hch⟩ := h.ch
    have htl := (List.getElem?_eq_some_iff.1 hv).1
    have hlen := h.len
    obtain ⟨p, hp⟩ : ∃ p, bs[t]? = some p := ⟨bs[t]'(by omega), List.getElem?_eq_getElem (by omega)⟩
    rcases hch t v p hv hp with ⟨h1, h2⟩ | ⟨h0, x1, b, cap, sp, _, _, _, h3, _⟩
    · left
      have := List.drop_eq_nil_iff.1 h1
      exact ⟨by simp; omega, h2⟩
    · right
      have : ¬ (Z.fns t).length ≤ x.2 t := fun h => h0 (List.drop_eq_nil_of_le h)
      exact ⟨by simp; omega, 68, _, _, h3⟩
  fresh := by
    intro G x vs s q h hq hqn
    obtain ⟨bs, hbl, hW, hch⟩ := h.ch
    refine ⟨h.len, h.bd.add hqn, h.ok, bs, hbl, Z.weak (Z.fresh hW hq hqn) fun c hc => ?_, fun t v p hv hp => ?_⟩
    · rcases hc with (h | h) | h
      · exact .inl (.inl h)
      · exact .inr h
      · exact .inl (.inr h)
    · rcases hch t v p hv hp with h1 | ⟨h0, x1, b, cap, sp, hp1, h1, h2, h3, h4, h5, h6⟩
      · exact .inl h1
      · refine .inr ⟨h0, x1, b, cap, sp, hp1, fun hx => ?_, fun hx => ?_, h3, h4, h5, h6⟩
        · rcases hx with hx | hx
          · exact h1 hx
          · rw [hx, hq] at h4; cases h4
        · rcases hx with hx | hx
          · exact h2 hx
          · rw [hx, hq] at h6; cases h6
  weak := by
    intro G G' x vs s h hG
    obtain ⟨bs, hbl, hW, hch⟩ := h.ch
    exact ⟨h.len, ⟨fun c hc => h.bd.bd c (hG c hc)⟩, h.ok, bs, hbl, Z.weak hW fun c hc => hc.imp (hG c) id, fun t v p hv hp => (hch t v p hv hp).keep hG fun c y _ hx => hx⟩
  stable := by
    intro G x vs s s' h hk hn
    obtain ⟨bs, hbl, hW, hch⟩ := h.ch
    refine ⟨h.len, ⟨fun c hc => by have := h.bd.bd c hc; omega⟩, h.ok, bs, hbl, Z.stable hW (fun c y hc hx => hk c y (fun h => hc (.inl h)) hx) hn, fun t v p hv hp => ?_⟩
    rcases hch t v p hv hp with h1 | ⟨h0, x1, b, cap, sp, hp1, h1, h2, h3, h4, h5, h6⟩
    · exact .inl h1
    · exact .inr ⟨h0, x1, b, cap, sp, hp1, h1, h2, h3, hk _ _ h1 h4, h5, hk _ _ h2 h6⟩
  step := by
    intro G x vs s t f c1 c2 hws h hlv hv
    obtain ⟨bs, hbl, hW, hch⟩ := h.ch
    have hlen := h.len
    have htl := (List.getElem?_eq_some_iff.1 hv).1
    obtain ⟨p, hp⟩ : ∃ p, bs[t]? = some p := ⟨bs[t]'(by omega), List.getElem?_eq_getElem (by omega)⟩
    simp only [decide_eq_true_eq] at hlv
    rcases hch t _ p hv hp with ⟨h1, h2⟩ | ⟨h0, x1, b, cap, sp, hp1, h1, h2, h3, h4, h5, h6⟩
    · cases h2
    cases h3
    obtain ⟨u, hu⟩ : ∃ u, (Z.fns t)[x.2 t]? = some u := ⟨(Z.fns t)[x.2 t]'hlv.2, List.getElem?_eq_getElem hlv.2⟩
    have hdr : (Z.fns t).drop (x.2 t) = u :: (Z.fns t).drop (x.2 t + 1) := by
      rw [List.drop_eq_getElem_cons hlv.2]
      rw [List.getElem?_eq_getElem hlv.2] at hu
      rw [Option.some.inj hu]
    obtain ⟨g, d1, d2, rfl⟩ : ∃ g d1 d2, u = .func (.func g) d1 d2 := by
      obtain ⟨h7, h8⟩ := Z.isf t u (List.mem_of_getElem? hu)
      rcases h8 with rfl | h8
      · cases h7
      · exact h8
    rw [hdr, List.length_cons] at h4 h5
    rw [hdr, List.cons_append] at h6
    have hsm := Z.small t
    have hok' := Z.okstep h.ok hlv.1 hlv.2
    have hG' : ∀ c, (c = x1 ∨ c = b) → (fun c => G c ∨ blksOf bs c) c := fun c hc => .inr (blks_mem hp ⟨x1, b, hp1, hc⟩)
    show Fn Try.prog B 68 #[.pointer (some ⟨x1, 0, none⟩)] s _
    have others : ∀ s', (∀ c y, (G c ∨ blksOf bs c) → s.m c = some y → s'.m c = some y) → ∀ t' v' p', vs[t']? = some v' → bs[t']? = some p' → CO G ((Z.fns t').drop (x.2 t')) v' p' s' :=
      fun s' hk t' v' p' hv' hp' => (hch t' v' p' hv' hp').keep (fun c hc => hc) fun c y hc hx => hk c y (.inr (blks_mem hp' hc)) hx
    refine chain_call (Q := fun ok s' => ok = (Z.act x.1 t (x.2 t)).2 ∧ Z.WI (fun c => G c ∨ blksOf bs c) (Z.act x.1 t (x.2 t)).1 s' ∧ s.n ≤ s'.n ∧ ∀ c y, (G c ∨ blksOf bs c) → s.m c = some y → s'.m c = some y) h4 h6 (by simp; omega) h5 (fun u hu => Z.isf t u (List.mem_of_mem_drop hu)) ?_ ?_ ?_
    · refine (Z.call hws hW h.ok hlv.1 hu).mono ?_
      rintro r s' ⟨rfl, hW', hn', hk'⟩
      exact ⟨_, rfl, ⟨rfl, hW', hn', hk'⟩, (hk' _ _ (hG' _ (.inl rfl)) h4).trans h4.symm, (hk' _ _ (hG' _ (.inr rfl)) h6).trans h6.symm⟩
    · rintro s' ⟨hok, hW', hn', hk'⟩
      refine ⟨.nilFunc, by simp only [← hok], .inl rfl, ?_, hn', fun c y hc hx => hk' c y (.inl hc) hx⟩
      simp only [← hok, Bool.false_eq_true, if_false]
      exact ⟨hlen, ⟨fun c hc => by have := h.bd.bd c hc; omega⟩, by simpa only [← hok, Bool.false_eq_true, if_false] using hok', bs, hbl, hW', others s' hk'⟩
    · rintro s1 v' s2 hws1 hws2 ⟨hok, hW', hn', hk'⟩ hC hold hn2
      refine ⟨v', by simp only [← hok], ?_, ?_, by omega, fun c y hc hx => ?_⟩
      · rcases hC with ⟨_, h7⟩ | ⟨_, _, _, _, _, _, _, _, h7, _⟩
        · exact .inl h7
        · exact .inr ⟨_, _, _, h7⟩
      · simp only [← hok, if_true]
        have hold' : ∀ c y, s1.m c = some y → s2.m c = some y := fun c y hx => (hold c (hws1.2 _ _ hx).2).trans hx
        have hset : ∀ (t' : Nat) (v2 : Value), (vs.set t v')[t']? = some v2 → (t' = t ∧ v2 = v') ∨ (t' ≠ t ∧ vs[t']? = some v2) := fun t' v2 h7 => by
          by_cases e : t' = t
          · subst e; rw [List.getElem?_set_self htl] at h7; exact .inl ⟨rfl, (Option.some.inj h7).symm⟩
          · rw [List.getElem?_set_ne (Ne.symm e)] at h7; exact .inr ⟨e, h7⟩
        have hdrop : (Z.fns t).drop (updAt x.2 t t) = (Z.fns t).drop (x.2 t + 1) := by simp [updAt]
        have hoth : ∀ t', t' ≠ t → updAt x.2 t t' = x.2 t' := fun t' h7 => by simp [updAt, h7]
        rcases hC with ⟨h7, h8⟩ | ⟨h7, x1', b', cap', sp', h8, h9, h10, h11, h12, h13, h14, h15⟩
        · refine ⟨by rw [List.length_set]; exact hlen, ⟨fun c hc => by have := h.bd.bd c hc; omega⟩, by simpa only [← hok, if_true] using hok', bs, hbl, Z.stable hW' (fun c y _ hx => hold' c y hx) hn2, fun t' v2 p2 hv2 hp2 => ?_⟩
          rcases hset t' v2 hv2 with ⟨rfl, rfl⟩ | ⟨h9, h10⟩
          · exact .inl ⟨hdrop.trans h7, h8⟩
          · simp only [hoth t' h9]
            exact (others s1 hk' t' v2 p2 h10 hp2).keep (fun c hc => hc) fun c y _ hx => hold' c y hx
        · have hno : ∀ c, s1.n ≤ c → s1.m c = none := fun c hc => by
            cases hx : s1.m c with
            | none => rfl
            | some y => have := (hws1.2 _ _ hx).2; omega
          have hbl2 : ∀ c, blksOf (bs.set t (some (x1', b'))) c → blksOf bs c ∨ c = x1' ∨ c = b' := by
            rintro c ⟨y1, y2, hm, hc⟩
            rcases List.mem_or_eq_of_mem_set hm with h | h
            · exact .inl ⟨y1, y2, h, hc⟩
            · cases h; exact .inr hc
          have hW2 : Z.WI (fun c => G c ∨ blksOf (bs.set t (some (x1', b'))) c) (Z.act x.1 t (x.2 t)).1 (s1.up s2.n) := Z.weak (Z.fresh (Z.fresh (Z.stable hW' (s' := s1.up s2.n) (fun c y _ hx => hx) hn2) (hno x1' h8) (hws2.2 _ _ h12).2) (hno b' h9) (hws2.2 _ _ h14).2) fun c hc => by
            rcases hc with h | h
            · exact .inl (.inl (.inl h))
            · rcases hbl2 c h with h | h | h
              · exact .inl (.inl (.inr h))
              · exact .inl (.inr h)
              · exact .inr h
          refine ⟨by rw [List.length_set]; exact hlen, ⟨fun c hc => by have := h.bd.bd c hc; omega⟩, by simpa only [← hok, if_true] using hok', bs.set t (some (x1', b')), by rw [List.length_set]; exact hbl, Z.stable hW2 (fun c y _ hx => hold' c y hx) (Nat.le_refl _), fun t' v2 p2 hv2 hp2 => ?_⟩
          rcases hset t' v2 hv2 with ⟨rfl, rfl⟩ | ⟨h16, h17⟩
          · rw [List.getElem?_set_self (by omega)] at hp2
            cases hp2
            refine .inr ⟨by rw [hdrop]; exact h7, x1', b', cap', sp', rfl, fun hg => ?_, fun hg => ?_, h11, by rw [hdrop]; exact h12, by rw [hdrop]; exact h13, by rw [hdrop]; exact h14⟩
            · have := h.bd.bd _ hg; omega
            · have := h.bd.bd _ hg; omega
          · rw [List.getElem?_set_ne (Ne.symm h16)] at hp2
            simp only [hoth t' h16]
            exact (others s1 hk' t' v2 p2 h17 hp2).keep (fun c hc => hc) fun c y _ hx => hold' c y hx
      · have h7 := hk' c y (.inl hc) hx
        exact (hold c (hws1.2 _ _ h7).2).trans h7
end Go.Proofs.Ytgcojbgkenndhaa
