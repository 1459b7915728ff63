/- Steps: a cell's accesses. -/
import Derived.Test.YtdbgeahmhfocaaaLFree
namespace Go.Proofs.Ytdbgeahmhfocaaa
set_option linter.unusedSimpArgs false
set_option linter.unusedVariables false
set_option maxRecDepth 100000
open Go Go.RowKit
section
variable {B : World} {L : Lg B} {K : Value → St → Prop} {G : Nat → Prop} {s : St}
/-- What comes next, behind a value. -/
def NxA {α : Type} (L : Lg B) (t n : Nat) (enc : α → Value) (ψ : α → L.U → L.U × List L.A) (nv : Value) (h : HF) : Prop :=
  (nv = .nilFunc ∧ ∀ x u, ψ x u = (u, [])) ∨ ∃ f c1 c2, nv = .func (.func f) c1 c2 ∧ ∀ x G u s, Env L h G u s → Fn Try.prog B f (c1 ++ #[enc x] ++ c2) s fun v' s' => Aft L (Rep L t n (ψ x u).2) G (ψ x u).1 s v' s'
theorem NxA.more {α : Type} {t n : Nat} {enc : α → Value} {ψ : α → L.U → L.U × List L.A} {nv : Value} {h h2 : HF} (hn : NxA L t n enc ψ nv h) (hs : ∀ c y, h c = some y → h2 c = some y) : NxA L t n enc ψ nv h2 := by
  rcases hn with hn | ⟨f, c1, c2, hv, hc⟩
  · exact .inl hn
  · refine .inr ⟨f, c1, c2, hv, fun x G u s he => ?_⟩
    have he2 : Env L h G u s := he.weak hs (fun c hc => .inl hc) fun c hc => by
      cases hx : h c with
      | none => rfl
      | some y => have h3 := he.dis c hc; rw [hs _ _ hx] at h3; cases h3
    exact hc _ _ u s he2
theorem NxA.one {α : Type} {t n : Nat} {enc : α → Value} {ψ : α → L.U → L.U × List L.A} {nv : Value} {h : HF} (hn : NxA L t n enc ψ nv h) : vc nv = #[nv] ∧ nv.oneCell' = true := by
  rcases hn with ⟨rfl, _⟩ | ⟨_, _, _, rfl, _⟩ <;> exact ⟨rfl, rfl⟩
def putH (h : HF) (b : Nat) (y : HP) : HF := fun c => if c = b then some y else h c
theorem putH_ne {h : HF} {b c : Nat} {y : HP} (hc : c ≠ b) : putH h b y c = h c := by unfold putH; rw [if_neg hc]
theorem putH_eq {h : HF} {b : Nat} {y : HP} : putH h b y b = some y := by unfold putH; rw [if_pos rfl]
theorem Aft.put {h : HF} {u : L.U} {v : Value} {s' : St} (ha : Aft L (fun _ h' => h' = h) G u s v s') {b : Nat} (hb : h b ≠ none) (y : HP) : Aft L (fun _ h' => h' = putH h b y) G u s v (s'.set b y) := by
  obtain ⟨n1, k1, h', e1, s1, d1, i1⟩ := ha
  subst e1
  have hG : ¬ G b := fun hg => hb (d1 b hg)
  refine ⟨by simp only [St.set_n]; exact n1, fun c x hc hx => ?_, _, rfl, fun c x hc => ?_, fun c hc => ?_, ?_⟩
  · have hne : c ≠ b := fun e => hG (by rw [← e]; exact hc)
    rw [St.set_m_ne _ _ hne]; exact k1 c x hc hx
  · by_cases e : c = b
    · subst e; rw [putH_eq] at hc; cases hc; exact St.set_m_same _ _ _
    · rw [putH_ne e] at hc; rw [St.set_m_ne _ _ e]; exact s1 c x hc
  · have hne : c ≠ b := fun e => hG (by rw [← e]; exact hc)
    rw [putH_ne hne]; exact d1 c hc
  · refine L.weak (L.stable (s' := s'.set b y) i1 (fun c x hc hx => ?_) (by simp only [St.set_n]; omega)) fun c hc => ?_
    · have hne : c ≠ b := fun e => hc (.inr (by rw [e]; exact hb))
      rw [St.set_m_ne _ _ hne]; exact hx
    · rcases hc with hc | hc
      · exact .inl hc
      · by_cases e : c = b
        · subst e; exact .inr hb
        · rw [putH_ne e] at hc; exact .inr hc
theorem load_of {t n : Nat} {a : L.A} {r : List L.A} {val : L.U → Int} {φ : L.U → L.U} {ψ : Int → L.U → L.U × List L.A} {cv nv : Value} {h : HF} {u0 : L.U} (hc : PtV cv)
    (hl : OpOk L 42 #[cv] (fun u r => r = .int .i64 (val u)) φ h) (hn : NxA L t n (Value.int .i64) ψ nv h)
    (hex : ∀ u, (L.ex t u a).2.2 = true ∧ (L.ex t u a).1 = (ψ (val u) (φ u)).1 ∧ (L.ex t u a).2.1 ++ r = (ψ (val u) (φ u)).2)
    (he : Env L h G u0 s) (hK : ∀ v' s', Aft L (Rep L t (n + 1) (a :: r)) G u0 s v' s' → s'.wf B → K v' s') : Fn Try.prog B 16 #[cv, nv] s K := by
  refine Fn.of is16 (by simp) fun hwf => ?_
  have hB := hwf.1
  simp only [b16, Try.f16, Option.getD_some]
  simp -implicitDefEqProofs (disch := first | omega | (simp only [St.set_n, St.up_n, List.length_cons, List.length_nil]; omega)) only [go_sem, Nat.reduceAdd, Nat.reduceMul, Nat.reduceSub, Int.reduceAdd, Int.reduceMul, Int.reduceSub, Int.reduceNeg, Int.reduceToNat, hc.one.1, hc.one.2, hn.one.1, hn.one.2]
  have key : ∀ s1, s1 = (((s.set s.n (.raw (.cells #[cv] 30 (0, 0)))).set (s.n + 1) (.raw (.cells #[nv] 32 (0, 0)))).set (s.n + 1 + 1) (.raw (.cells #[.int .i64 0] 3 (0, 0)))).up (s.n + 1 + 1 + 1) →
      (∀ c, c < s.n → s1.m c = s.m c) ∧ s1.wf B ∧ s.n ≤ s1.n ∧ s1.m s.n = some (.raw (.cells #[cv] 30 (0, 0))) ∧ s1.m (s.n + 1) = some (.raw (.cells #[nv] 32 (0, 0))) ∧ s1.m (s.n + 1 + 1) = some (.raw (.cells #[.int .i64 0] 3 (0, 0))) := by
    rintro s1 rfl
    refine ⟨fun c hc => by simp -implicitDefEqProofs (disch := first | omega | (simp only [St.set_n, St.up_n, List.length_cons, List.length_nil]; omega)) only [go_sem, Nat.reduceAdd, Nat.reduceMul, Nat.reduceSub, Int.reduceAdd, Int.reduceMul, Int.reduceSub, Int.reduceNeg, Int.reduceToNat], ⟨by simp only [St.up_n]; omega, fun c x hx => ?_⟩, by simp only [St.up_n]; omega, by simp -implicitDefEqProofs (disch := first | omega | (simp only [St.set_n, St.up_n, List.length_cons, List.length_nil]; omega)) only [go_sem, Nat.reduceAdd, Nat.reduceMul, Nat.reduceSub, Int.reduceAdd, Int.reduceMul, Int.reduceSub, Int.reduceNeg, Int.reduceToNat], by simp -implicitDefEqProofs (disch := first | omega | (simp only [St.set_n, St.up_n, List.length_cons, List.length_nil]; omega)) only [go_sem, Nat.reduceAdd, Nat.reduceMul, Nat.reduceSub, Int.reduceAdd, Int.reduceMul, Int.reduceSub, Int.reduceNeg, Int.reduceToNat], by simp -implicitDefEqProofs (disch := first | omega | (simp only [St.set_n, St.up_n, List.length_cons, List.length_nil]; omega)) only [go_sem, Nat.reduceAdd, Nat.reduceMul, Nat.reduceSub, Int.reduceAdd, Int.reduceMul, Int.reduceSub, Int.reduceNeg, Int.reduceToNat]⟩
    simp only [St.up_m, St.set, St.up_n] at hx ⊢
    split at hx
    · omega
    · split at hx
      · omega
      · split at hx
        · omega
        · have := hwf.2 _ _ hx; omega
  obtain ⟨hk, hw, hn1, m1, m2, m3⟩ := key _ rfl
  generalize (((s.set s.n (.raw (.cells #[cv] 30 (0, 0)))).set (s.n + 1) (.raw (.cells #[nv] 32 (0, 0)))).set (s.n + 1 + 1) (.raw (.cells #[.int .i64 0] 3 (0, 0)))).up (s.n + 1 + 1 + 1) = s1 at hk hw m1 m2 m3 hn1 ⊢
  have he1 := he.grow hk hn1 hw
  have mm : ∀ c y, s.n ≤ c → s1.m c = some y → grow h s s1 c = some y := fun c y hc hx => by unfold grow; rw [if_pos hc]; exact hx
  have g1 := mm _ _ (Nat.le_refl _) m1
  have g2 := mm _ _ (by omega) m2
  have g3 := mm _ _ (by omega) m3
  refine callF_of (do_of (t := t) (n := n) (a := a) (r := r) (φ := φ) (η := fun u => putH (grow h s s1) (s.n + 1 + 1) (.raw (.cells #[.int .i64 (val u)] 3 (0, 0)))) (ψ := fun u => ψ (val u)) (.inr ⟨_, _, _, rfl, fun G2 u2 s2 hE => ?_⟩) (fun u c hc => ?_) (fun u => .inr ⟨_, _, _, rfl, fun G2 u2 s2 hE => ?_⟩) hex he1 fun v' s' ha' hw' => ?_)
  · have o1 := hE.sub _ _ g1
    have o3 := hE.sub _ _ g3
    refine Fn.of is41 (by simp) fun hwf2 => ?_
    simp only [b41, Try.f41, Option.getD_some]
    simp -implicitDefEqProofs (disch := first | omega | (simp only [St.set_n, St.up_n, List.length_cons, List.length_nil]; omega)) only [go_sem, Nat.reduceAdd, Nat.reduceMul, Nat.reduceSub, Int.reduceAdd, Int.reduceMul, Int.reduceSub, Int.reduceNeg, Int.reduceToNat, o1]
    refine callF_wf ((hl.more he.gsub _ _ _ hE).mono fun r s' ⟨hr, ha'⟩ hw' => ?_)
    subst hr
    obtain ⟨h', rfl, he'⟩ := ha'.env hE (fun c hc => .inl hc) hw'
    have o3' := he'.sub _ _ g3
    simp -implicitDefEqProofs (disch := first | omega | (simp only [St.set_n, St.up_n, List.length_cons, List.length_nil]; omega)) only [go_sem, Nat.reduceAdd, Nat.reduceMul, Nat.reduceSub, Int.reduceAdd, Int.reduceMul, Int.reduceSub, Int.reduceNeg, Int.reduceToNat, o3']
    exact ha'.put (by rw [g3]; simp) _
  · rw [putH_ne (fun e => by rw [e, g3] at hc; cases hc)]; exact hc
  · have o2 := hE.sub (s.n + 1) _ ((putH_ne (by omega)).trans g2)
    have o3 := hE.sub (s.n + 1 + 1) _ putH_eq
    have hs : ∀ c y, h c = some y → putH (grow h s s1) (s.n + 1 + 1) (.raw (.cells #[.int .i64 (val u)] 3 (0, 0))) c = some y := fun c y hc => by
      have := he.hlt hc
      rw [putH_ne (by omega)]; exact he.gsub _ _ hc
    have hn' := hn.more hs
    refine Fn.of is43 (by simp) fun hwf2 => ?_
    rcases hn' with ⟨rfl, hu⟩ | ⟨f, c1, c2, rfl, hcc⟩
    · simp only [b43, Try.f43, Option.getD_some]
      simp -implicitDefEqProofs (disch := first | omega | (simp only [St.set_n, St.up_n, List.length_cons, List.length_nil]; omega)) only [go_sem, Nat.reduceAdd, Nat.reduceMul, Nat.reduceSub, Int.reduceAdd, Int.reduceMul, Int.reduceSub, Int.reduceNeg, Int.reduceToNat, o2]
      rw [hu]
      exact hE.done (rep_nil _ _ _)
    · simp only [b43, Try.f43, Option.getD_some]
      simp -implicitDefEqProofs (disch := first | omega | (simp only [St.set_n, St.up_n, List.length_cons, List.length_nil]; omega)) only [go_sem, Nat.reduceAdd, Nat.reduceMul, Nat.reduceSub, Int.reduceAdd, Int.reduceMul, Int.reduceSub, Int.reduceNeg, Int.reduceToNat, o2, o3]
      refine callF_wf ((hcc (val u) _ _ _ hE).mono fun v' s' ha' hw' => ?_)
      simp -implicitDefEqProofs (disch := first | omega | (simp only [St.set_n, St.up_n, List.length_cons, List.length_nil]; omega)) only [go_sem, Nat.reduceAdd, Nat.reduceMul, Nat.reduceSub, Int.reduceAdd, Int.reduceMul, Int.reduceSub, Int.reduceNeg, Int.reduceToNat]
      exact ha'
  · simp -implicitDefEqProofs (disch := first | omega | (simp only [St.set_n, St.up_n, List.length_cons, List.length_nil]; omega)) only [go_sem, Nat.reduceAdd, Nat.reduceMul, Nat.reduceSub, Int.reduceAdd, Int.reduceMul, Int.reduceSub, Int.reduceNeg, Int.reduceToNat]
    exact hK _ _ (Aft.since he hk hn1 ha') hw'
theorem cas_of {t n : Nat} {a : L.A} {r : List L.A} {ok : L.U → Bool} {φ : L.U → L.U} {ψ : Bool → L.U → L.U × List L.A} {cv nv : Value} {old new : Int} {h : HF} {u0 : L.U} (hc : PtV cv)
    (hl : OpOk L 45 #[cv, .int .i64 old, .int .i64 new] (fun u r => r = .bool (ok u)) φ h) (hn : NxA L t n Value.bool ψ nv h)
    (hex : ∀ u, (L.ex t u a).2.2 = true ∧ (L.ex t u a).1 = (ψ (ok u) (φ u)).1 ∧ (L.ex t u a).2.1 ++ r = (ψ (ok u) (φ u)).2)
    (he : Env L h G u0 s) (hK : ∀ v' s', Aft L (Rep L t (n + 1) (a :: r)) G u0 s v' s' → s'.wf B → K v' s') : Fn Try.prog B 18 #[cv, .int .i64 old, .int .i64 new, nv] s K := by
  refine Fn.of is18 (by simp) fun hwf => ?_
  have hB := hwf.1
  simp only [b18, Try.f18, Option.getD_some]
  simp -implicitDefEqProofs (disch := first | omega | (simp only [St.set_n, St.up_n, List.length_cons, List.length_nil]; omega)) only [go_sem, Nat.reduceAdd, Nat.reduceMul, Nat.reduceSub, Int.reduceAdd, Int.reduceMul, Int.reduceSub, Int.reduceNeg, Int.reduceToNat, hc.one.1, hc.one.2, hn.one.1, hn.one.2]
  have key : ∀ s1, s1 = (((((s.set s.n (.raw (.cells #[cv] 30 (0, 0)))).set (s.n + 1) (.raw (.cells #[.int .i64 old] 3 (0, 0)))).set (s.n + 1 + 1) (.raw (.cells #[.int .i64 new] 3 (0, 0)))).set (s.n + 1 + 1 + 1) (.raw (.cells #[nv] 41 (0, 0)))).set (s.n + 1 + 1 + 1 + 1) (.raw (.cells #[.bool false] 4 (0, 0)))).up (s.n + 1 + 1 + 1 + 1 + 1) →
      (∀ c, c < s.n → s1.m c = s.m c) ∧ s1.wf B ∧ s.n ≤ s1.n ∧ s1.m s.n = some (.raw (.cells #[cv] 30 (0, 0))) ∧ s1.m (s.n + 1) = some (.raw (.cells #[.int .i64 old] 3 (0, 0))) ∧ s1.m (s.n + 1 + 1) = some (.raw (.cells #[.int .i64 new] 3 (0, 0))) ∧ s1.m (s.n + 1 + 1 + 1) = some (.raw (.cells #[nv] 41 (0, 0))) ∧ s1.m (s.n + 1 + 1 + 1 + 1) = some (.raw (.cells #[.bool false] 4 (0, 0))) := by
    rintro s1 rfl
    refine ⟨fun c hc => by simp -implicitDefEqProofs (disch := first | omega | (simp only [St.set_n, St.up_n, List.length_cons, List.length_nil]; omega)) only [go_sem, Nat.reduceAdd, Nat.reduceMul, Nat.reduceSub, Int.reduceAdd, Int.reduceMul, Int.reduceSub, Int.reduceNeg, Int.reduceToNat], ⟨by simp only [St.up_n]; omega, fun c x hx => ?_⟩, by simp only [St.up_n]; omega, by simp -implicitDefEqProofs (disch := first | omega | (simp only [St.set_n, St.up_n, List.length_cons, List.length_nil]; omega)) only [go_sem, Nat.reduceAdd, Nat.reduceMul, Nat.reduceSub, Int.reduceAdd, Int.reduceMul, Int.reduceSub, Int.reduceNeg, Int.reduceToNat], by simp -implicitDefEqProofs (disch := first | omega | (simp only [St.set_n, St.up_n, List.length_cons, List.length_nil]; omega)) only [go_sem, Nat.reduceAdd, Nat.reduceMul, Nat.reduceSub, Int.reduceAdd, Int.reduceMul, Int.reduceSub, Int.reduceNeg, Int.reduceToNat], by simp -implicitDefEqProofs (disch := first | omega | (simp only [St.set_n, St.up_n, List.length_cons, List.length_nil]; omega)) only [go_sem, Nat.reduceAdd, Nat.reduceMul, Nat.reduceSub, Int.reduceAdd, Int.reduceMul, Int.reduceSub, Int.reduceNeg, Int.reduceToNat], by simp -implicitDefEqProofs (disch := first | omega | (simp only [St.set_n, St.up_n, List.length_cons, List.length_nil]; omega)) only [go_sem, Nat.reduceAdd, Nat.reduceMul, Nat.reduceSub, Int.reduceAdd, Int.reduceMul, Int.reduceSub, Int.reduceNeg, Int.reduceToNat], by simp -implicitDefEqProofs (disch := first | omega | (simp only [St.set_n, St.up_n, List.length_cons, List.length_nil]; omega)) only [go_sem, Nat.reduceAdd, Nat.reduceMul, Nat.reduceSub, Int.reduceAdd, Int.reduceMul, Int.reduceSub, Int.reduceNeg, Int.reduceToNat]⟩
    simp only [St.up_m, St.set, St.up_n] at hx ⊢
    split at hx
    · omega
    · split at hx
      · omega
      · split at hx
        · omega
        · split at hx
          · omega
          · split at hx
            · omega
            · have := hwf.2 _ _ hx; omega
  obtain ⟨hk, hw, hn1, m1, m2, m3, m4, m5⟩ := key _ rfl
  generalize (((((s.set s.n (.raw (.cells #[cv] 30 (0, 0)))).set (s.n + 1) (.raw (.cells #[.int .i64 old] 3 (0, 0)))).set (s.n + 1 + 1) (.raw (.cells #[.int .i64 new] 3 (0, 0)))).set (s.n + 1 + 1 + 1) (.raw (.cells #[nv] 41 (0, 0)))).set (s.n + 1 + 1 + 1 + 1) (.raw (.cells #[.bool false] 4 (0, 0)))).up (s.n + 1 + 1 + 1 + 1 + 1) = s1 at hk hw m1 m2 m3 m4 m5 hn1 ⊢
  have he1 := he.grow hk hn1 hw
  have mm : ∀ c y, s.n ≤ c → s1.m c = some y → grow h s s1 c = some y := fun c y hc hx => by unfold grow; rw [if_pos hc]; exact hx
  have g1 := mm _ _ (Nat.le_refl _) m1
  have g2 := mm _ _ (by omega) m2
  have g3 := mm _ _ (by omega) m3
  have g4 := mm _ _ (by omega) m4
  have g5 := mm _ _ (by omega) m5
  refine callF_of (do_of (t := t) (n := n) (a := a) (r := r) (φ := φ) (η := fun u => putH (grow h s s1) (s.n + 1 + 1 + 1 + 1) (.raw (.cells #[.bool (ok u)] 4 (0, 0)))) (ψ := fun u => ψ (ok u)) (.inr ⟨_, _, _, rfl, fun G2 u2 s2 hE => ?_⟩) (fun u c hc => ?_) (fun u => .inr ⟨_, _, _, rfl, fun G2 u2 s2 hE => ?_⟩) hex he1 fun v' s' ha' hw' => ?_)
  · have o1 := hE.sub _ _ g1
    have o2 := hE.sub _ _ g2
    have o3 := hE.sub _ _ g3
    refine Fn.of is44 (by simp) fun hwf2 => ?_
    simp only [b44, Try.f44, Option.getD_some]
    simp -implicitDefEqProofs (disch := first | omega | (simp only [St.set_n, St.up_n, List.length_cons, List.length_nil]; omega)) only [go_sem, Nat.reduceAdd, Nat.reduceMul, Nat.reduceSub, Int.reduceAdd, Int.reduceMul, Int.reduceSub, Int.reduceNeg, Int.reduceToNat, o1, o2, o3]
    refine callF_wf ((hl.more he.gsub _ _ _ hE).mono fun r s' ⟨hr, ha'⟩ hw' => ?_)
    subst hr
    obtain ⟨h', rfl, he'⟩ := ha'.env hE (fun c hc => .inl hc) hw'
    have o5' := he'.sub _ _ g5
    simp -implicitDefEqProofs (disch := first | omega | (simp only [St.set_n, St.up_n, List.length_cons, List.length_nil]; omega)) only [go_sem, Nat.reduceAdd, Nat.reduceMul, Nat.reduceSub, Int.reduceAdd, Int.reduceMul, Int.reduceSub, Int.reduceNeg, Int.reduceToNat, o5']
    exact ha'.put (by rw [g5]; simp) _
  · rw [putH_ne (fun e => by rw [e, g5] at hc; cases hc)]; exact hc
  · have o4 := hE.sub (s.n + 1 + 1 + 1) _ ((putH_ne (by omega)).trans g4)
    have o5 := hE.sub (s.n + 1 + 1 + 1 + 1) _ putH_eq
    have hs : ∀ c y, h c = some y → putH (grow h s s1) (s.n + 1 + 1 + 1 + 1) (.raw (.cells #[.bool (ok u)] 4 (0, 0))) c = some y := fun c y hc => by
      have := he.hlt hc
      rw [putH_ne (by omega)]; exact he.gsub _ _ hc
    have hn' := hn.more hs
    refine Fn.of is46 (by simp) fun hwf2 => ?_
    rcases hn' with ⟨rfl, hu⟩ | ⟨f, c1, c2, rfl, hcc⟩
    · simp only [b46, Try.f46, Option.getD_some]
      simp -implicitDefEqProofs (disch := first | omega | (simp only [St.set_n, St.up_n, List.length_cons, List.length_nil]; omega)) only [go_sem, Nat.reduceAdd, Nat.reduceMul, Nat.reduceSub, Int.reduceAdd, Int.reduceMul, Int.reduceSub, Int.reduceNeg, Int.reduceToNat, o4]
      rw [hu]
      exact hE.done (rep_nil _ _ _)
    · simp only [b46, Try.f46, Option.getD_some]
      simp -implicitDefEqProofs (disch := first | omega | (simp only [St.set_n, St.up_n, List.length_cons, List.length_nil]; omega)) only [go_sem, Nat.reduceAdd, Nat.reduceMul, Nat.reduceSub, Int.reduceAdd, Int.reduceMul, Int.reduceSub, Int.reduceNeg, Int.reduceToNat, o4, o5]
      refine callF_wf ((hcc (ok u) _ _ _ hE).mono fun v' s' ha' hw' => ?_)
      simp -implicitDefEqProofs (disch := first | omega | (simp only [St.set_n, St.up_n, List.length_cons, List.length_nil]; omega)) only [go_sem, Nat.reduceAdd, Nat.reduceMul, Nat.reduceSub, Int.reduceAdd, Int.reduceMul, Int.reduceSub, Int.reduceNeg, Int.reduceToNat]
      exact ha'
  · simp -implicitDefEqProofs (disch := first | omega | (simp only [St.set_n, St.up_n, List.length_cons, List.length_nil]; omega)) only [go_sem, Nat.reduceAdd, Nat.reduceMul, Nat.reduceSub, Int.reduceAdd, Int.reduceMul, Int.reduceSub, Int.reduceNeg, Int.reduceToNat]
    exact hK _ _ (Aft.since he hk hn1 ha') hw'
end
end Go.Proofs.Ytdbgeahmhfocaaa
