/- Steps: contracts of the functions that make steps. -/
import Derived.Test.YtdbgeahmhfocaaaGreatLStep
namespace Go.Proofs.YtdbgeahmhfocaaaGreat
set_option linter.unusedSimpArgs false
set_option linter.unusedVariables false
set_option maxRecDepth 100000
open Go Go.RowKit
section
variable {B : World} {L : Lg B} {K : Value → St → Prop} {G : Nat → Prop} {s : St}
/-- Memory behind something that was made. -/
def grow (h : HF) (s s' : St) : HF := fun c => if s.n ≤ c then s'.m c else h c
theorem Env.grow {h : HF} {u : L.U} {s' : St} (he : Env L h G u s) (hm : ∀ c, c < s.n → s'.m c = s.m c) (hn : s.n ≤ s'.n) (hw : s'.wf B) : Env L (grow h s s') G u s' := he.kept hm hn hw
theorem Env.hlt {h : HF} {u : L.U} (he : Env L h G u s) {c : Nat} {y : HP} (hc : h c = some y) : c < s.n := (he.wf.2 _ _ (he.sub _ _ hc)).2
theorem Env.gsub {h : HF} {u : L.U} {s' : St} (he : Env L h G u s) : ∀ c y, h c = some y → Go.Proofs.YtdbgeahmhfocaaaGreat.grow h s s' c = some y := fun c y hc => by
  have := he.hlt hc
  unfold Go.Proofs.YtdbgeahmhfocaaaGreat.grow
  rw [if_neg (by omega)]; exact hc
theorem FxOk.more' {P : L.U → Prop} {φ : L.U → L.U} {η : L.U → HF} {fv : Value} {h h2 : HF} (hf : FxOk L P φ η fv h) (hs : ∀ c y, h c = some y → h2 c = some y) (hd : ∀ u c, h c = none → η u c = none) : FxOk L P φ (fun u c => if (h c).isNone then h2 c else η u c) fv h2 := by
  rcases hf with ⟨hf, hi⟩ | ⟨f, c1, c2, hv, hc⟩
  · refine .inl ⟨hf, fun u => ⟨(hi u).1, ?_⟩⟩
    funext c
    simp only [(hi u).2]
    cases hx : h c with
    | none => rfl
    | some y => exact (hs _ _ hx).symm
  · refine .inr ⟨f, c1, c2, hv, fun G u s he hp => ?_⟩
    have hno : ∀ c, G c → h c = none := fun c hc => by
      cases hx : h c with
      | none => rfl
      | some y => have h3 := he.dis c hc; rw [hs _ _ hx] at h3; cases h3
    have he2 : Env L h (fun c => G c ∨ (h2 c ≠ none ∧ h c = none)) u s := he.weak hs (fun c hc => hc.imp id fun h => h.1) fun c hc => by
      rcases hc with hc | hc
      · exact hno c hc
      · exact hc.2
    refine (hc _ u s he2 hp).mono fun rv s' ⟨n1, k1, h', e1, s1, d1, i1⟩ => ?_
    subst e1
    refine ⟨n1, fun c y hc hx => k1 c y (.inl hc) hx, _, rfl, fun c y hc => ?_, fun c hc => ?_, L.weak i1 fun c hc => ?_⟩
    · cases hx : h c with
      | none =>
        simp only [hx, Option.isNone_none, if_true] at hc
        exact k1 c y (.inr ⟨by rw [hc]; simp, hx⟩) (he.sub _ _ hc)
      | some z =>
        simp only [hx, Option.isNone_some, Bool.false_eq_true, if_false] at hc
        exact s1 _ _ hc
    · simp only [hno c hc, Option.isNone_none, if_true]
      exact he.dis c hc
    · rcases hc with hc | hc
      · exact .inl (.inl hc)
      · cases hx : h c with
        | none =>
          simp only [hx, Option.isNone_none, if_true] at hc
          exact .inl (.inr ⟨hc, by first | exact hx | rfl⟩)
        | some z =>
          simp only [hx, Option.isNone_some, Bool.false_eq_true, if_false] at hc
          exact .inr hc
theorem then_of {P : L.U → Prop} {t n : Nat} {ψ : L.U → L.U × List L.A} {nv : Value} {h : HF} {u : L.U} (hn : NxOk L P t n ψ nv h) (he : Env L h G u s) (hp : P u) (hK : ∀ v' s', Aft L (Rep L t n (ψ u).2) G (ψ u).1 s v' s' → s'.wf B → K v' s') :
    Fn Tryz.prog B 64 #[nv] s K := by
  refine Fn.of is64 (by simp) fun hwf => ?_
  rcases hn with ⟨rfl, hu⟩ | ⟨f, c1, c2, rfl, hc⟩
  · simp only [b64, Tryz.f64, Option.getD_some]
    simp -implicitDefEqProofs (disch := first | omega | (simp only [St.set_n, St.up_n, List.length_cons, List.length_nil]; omega)) only [go_sem, Nat.reduceAdd, Nat.reduceMul, Nat.reduceSub, Int.reduceAdd, Int.reduceMul, Int.reduceSub, Int.reduceNeg, Int.reduceToNat]
    refine hK _ _ ?_ hwf
    rw [hu]
    exact he.done (rep_nil _ _ _)
  · simp only [b64, Tryz.f64, Option.getD_some]
    simp -implicitDefEqProofs (disch := first | omega | (simp only [St.set_n, St.up_n, List.length_cons, List.length_nil]; omega)) only [go_sem, Nat.reduceAdd, Nat.reduceMul, Nat.reduceSub, Int.reduceAdd, Int.reduceMul, Int.reduceSub, Int.reduceNeg, Int.reduceToNat]
    refine callF_wf ((hc G u s he hp).mono fun v' s' h1 hw => ?_)
    simp -implicitDefEqProofs (disch := first | omega | (simp only [St.set_n, St.up_n, List.length_cons, List.length_nil]; omega)) only [go_sem, Nat.reduceAdd, Nat.reduceMul, Nat.reduceSub, Int.reduceAdd, Int.reduceMul, Int.reduceSub, Int.reduceNeg, Int.reduceToNat]
    exact hK _ _ h1 hw
theorem do_rep {t n b1 b2 : Nat} {a : L.A} {r : List L.A} {φ : L.U → L.U} {η : L.U → HF} {ψ : L.U → L.U → L.U × List L.A} {fv nv : Value} {h : HF} (h1 : h b1 = some (.raw (.cells #[fv] 1 (0, 0)))) (h2 : ∀ u, η u b2 = some (.raw (.cells #[nv] 110 (0, 0))))
    (hf : FxOk L (fun u => L.pre t u a) φ η fv h) (hn : ∀ u, L.pre t u a → NxOk L (fun u1 => u1 = φ u) t n (ψ u) nv (η u)) (hex : ∀ u, L.pre t u a → (L.ex t u a).2.2 = true ∧ (L.ex t u a).1 = (ψ u (φ u)).1 ∧ (L.ex t u a).2.1 ++ r = (ψ u (φ u)).2) :
    Rep L t (n + 1) (a :: r) (.func (.func 63) #[] #[.pointer (some ⟨b1, 0, none⟩), .pointer (some ⟨b2, 0, none⟩)]) h := by
  refine ⟨_, _, _, rfl, fun G u s he hp => ?_⟩
  obtain ⟨e1, e2, e3⟩ := hex u hp
  have m1 := he.sub _ _ h1
  refine Fn.of is63 (by simp) fun hwf => ?_
  rcases hf with ⟨rfl, hi⟩ | ⟨f, c1, c2, rfl, hc⟩
  · obtain ⟨i1, i2⟩ := hi u
    have h2u := h2 u
    have hnu := hn u hp
    rw [i2] at h2u hnu
    have m2 := he.sub _ _ h2u
    simp only [b63, Tryz.f63, Option.getD_some]
    simp -implicitDefEqProofs (disch := first | omega | (simp only [St.set_n, St.up_n, List.length_cons, List.length_nil]; omega)) only [go_sem, Nat.reduceAdd, Nat.reduceMul, Nat.reduceSub, Int.reduceAdd, Int.reduceMul, Int.reduceSub, Int.reduceNeg, Int.reduceToNat, m1, m2]
    refine callF_of (then_of hnu he i1.symm fun v' s' ha hw => ?_)
    simp -implicitDefEqProofs (disch := first | omega | (simp only [St.set_n, St.up_n, List.length_cons, List.length_nil]; omega)) only [go_sem, Nat.reduceAdd, Nat.reduceMul, Nat.reduceSub, Int.reduceAdd, Int.reduceMul, Int.reduceSub, Int.reduceNeg, Int.reduceToNat]
    rw [i1] at e2 e3
    rw [e1, e2, e3]
    exact ⟨fun _ => ⟨_, rfl, ha⟩, fun h => by cases h⟩
  · simp only [b63, Tryz.f63, Option.getD_some]
    simp -implicitDefEqProofs (disch := first | omega | (simp only [St.set_n, St.up_n, List.length_cons, List.length_nil]; omega)) only [go_sem, Nat.reduceAdd, Nat.reduceMul, Nat.reduceSub, Int.reduceAdd, Int.reduceMul, Int.reduceSub, Int.reduceNeg, Int.reduceToNat, m1]
    refine callF_wf ((hc G u s he hp).mono fun v1 s1 ha1 hw1 => ?_)
    obtain ⟨h', rfl, he1⟩ := ha1.env he (fun c hc => .inl hc) hw1
    have m2 := he1.sub _ _ (h2 u)
    simp -implicitDefEqProofs (disch := first | omega | (simp only [St.set_n, St.up_n, List.length_cons, List.length_nil]; omega)) only [go_sem, Nat.reduceAdd, Nat.reduceMul, Nat.reduceSub, Int.reduceAdd, Int.reduceMul, Int.reduceSub, Int.reduceNeg, Int.reduceToNat, m2]
    refine callF_of (then_of (hn u hp) he1 rfl fun v' s' ha hw => ?_)
    simp -implicitDefEqProofs (disch := first | omega | (simp only [St.set_n, St.up_n, List.length_cons, List.length_nil]; omega)) only [go_sem, Nat.reduceAdd, Nat.reduceMul, Nat.reduceSub, Int.reduceAdd, Int.reduceMul, Int.reduceSub, Int.reduceNeg, Int.reduceToNat]
    rw [e1, e2, e3]
    exact ⟨fun _ => ⟨_, rfl, ha1.trans ha⟩, fun h => by cases h⟩
theorem do_of {t n : Nat} {a : L.A} {r : List L.A} {φ : L.U → L.U} {η : L.U → HF} {ψ : L.U → L.U → L.U × List L.A} {fv nv : Value} {h : HF} {u0 : L.U}
    (hf : FxOk L (fun u => L.pre t u a) φ η fv h) (hd : ∀ u c, h c = none → η u c = none) (hq2 : vc nv = #[nv] ∧ nv.oneCell' = true) (hn : ∀ u, L.pre t u a → NxOk L (fun u1 => u1 = φ u) t n (ψ u) nv (η u)) (hex : ∀ u, L.pre t u a → (L.ex t u a).2.2 = true ∧ (L.ex t u a).1 = (ψ u (φ u)).1 ∧ (L.ex t u a).2.1 ++ r = (ψ u (φ u)).2)
    (he : Env L h G u0 s) (hK : ∀ v' s', Aft L (Rep L t (n + 1) (a :: r)) G u0 s v' s' → s'.wf B → K v' s') : Fn Tryz.prog B 35 #[fv, nv] s K := by
  have q1 : vc fv = #[fv] ∧ fv.oneCell' = true := by rcases hf with ⟨rfl, _⟩ | ⟨_, _, _, rfl, _⟩ <;> exact ⟨rfl, rfl⟩
  have q2 := hq2
  refine Fn.of is35 (by simp) fun hwf => ?_
  have hB := hwf.1
  simp only [b35, Tryz.f35, Option.getD_some]
  simp -implicitDefEqProofs (disch := first | omega | (simp only [St.set_n, St.up_n, List.length_cons, List.length_nil]; omega)) only [go_sem, Nat.reduceAdd, Nat.reduceMul, Nat.reduceSub, Int.reduceAdd, Int.reduceMul, Int.reduceSub, Int.reduceNeg, Int.reduceToNat, q1.1, q1.2, q2.1, q2.2]
  have hk : ∀ c, c < s.n → (((s.set s.n (.raw (.cells #[fv] 1 (0, 0)))).set (s.n + 1) (.raw (.cells #[nv] 110 (0, 0)))).up (s.n + 1 + 1)).m c = s.m c := fun c hc => by simp -implicitDefEqProofs (disch := first | omega | (simp only [St.set_n, St.up_n, List.length_cons, List.length_nil]; omega)) only [go_sem, Nat.reduceAdd, Nat.reduceMul, Nat.reduceSub, Int.reduceAdd, Int.reduceMul, Int.reduceSub, Int.reduceNeg, Int.reduceToNat]
  have hw : (((s.set s.n (.raw (.cells #[fv] 1 (0, 0)))).set (s.n + 1) (.raw (.cells #[nv] 110 (0, 0)))).up (s.n + 1 + 1)).wf B := by
    refine ⟨by simp only [St.up_n]; omega, fun c x hx => ?_⟩
    simp only [St.up_m, St.set, St.up_n] at hx ⊢
    split at hx
    · omega
    · split at hx
      · omega
      · have := hwf.2 _ _ hx; omega
  have m1 : (((s.set s.n (.raw (.cells #[fv] 1 (0, 0)))).set (s.n + 1) (.raw (.cells #[nv] 110 (0, 0)))).up (s.n + 1 + 1)).m s.n = some (.raw (.cells #[fv] 1 (0, 0))) := by simp -implicitDefEqProofs (disch := first | omega | (simp only [St.set_n, St.up_n, List.length_cons, List.length_nil]; omega)) only [go_sem, Nat.reduceAdd, Nat.reduceMul, Nat.reduceSub, Int.reduceAdd, Int.reduceMul, Int.reduceSub, Int.reduceNeg, Int.reduceToNat]
  have m2 : (((s.set s.n (.raw (.cells #[fv] 1 (0, 0)))).set (s.n + 1) (.raw (.cells #[nv] 110 (0, 0)))).up (s.n + 1 + 1)).m (s.n + 1) = some (.raw (.cells #[nv] 110 (0, 0))) := by simp -implicitDefEqProofs (disch := first | omega | (simp only [St.set_n, St.up_n, List.length_cons, List.length_nil]; omega)) only [go_sem, Nat.reduceAdd, Nat.reduceMul, Nat.reduceSub, Int.reduceAdd, Int.reduceMul, Int.reduceSub, Int.reduceNeg, Int.reduceToNat]
  have hn1 : s.n ≤ (((s.set s.n (.raw (.cells #[fv] 1 (0, 0)))).set (s.n + 1) (.raw (.cells #[nv] 110 (0, 0)))).up (s.n + 1 + 1)).n := by simp only [St.up_n]; omega
  generalize ((s.set s.n (.raw (.cells #[fv] 1 (0, 0)))).set (s.n + 1) (.raw (.cells #[nv] 110 (0, 0)))).up (s.n + 1 + 1) = s1 at hk hw m1 m2 hn1 ⊢
  have he1 := he.grow hk hn1 hw
  have hno : ∀ c, s.n ≤ c → h c = none := fun c hc => by
    cases hx : h c with
    | none => rfl
    | some y => have := he.hlt hx; omega
  refine hK _ _ (Aft.since he hk hn1 (he1.done ?_)) hw
  refine do_rep (φ := φ) (ψ := ψ) (η := fun u c => if (h c).isNone then grow h s s1 c else η u c) (fv := fv) (nv := nv) ?_ (fun u => ?_) (hf.more' he.gsub hd) (fun u hp => (hn u hp).more fun c y hc => ?_) hex
  · unfold grow; rw [if_pos (Nat.le_refl _)]; exact m1
  · simp only [hno (s.n + 1) (by omega), Option.isNone_none, if_true]
    unfold grow; rw [if_pos (by omega)]; exact m2
  · cases hx : h c with
    | none => have := hd u c hx; rw [hc] at this; cases this
    | some z => simp only [Option.isNone_some, Bool.false_eq_true, if_false]; exact hc
end
end Go.Proofs.YtdbgeahmhfocaaaGreat
