/- Steps: frees, one behind the other. -/
import Derived.Test.YtdbgeahmhfocaaaGreatLLock
namespace Go.Proofs.YtdbgeahmhfocaaaGreat
set_option linter.unusedSimpArgs false
set_option linter.unusedVariables false
set_option maxRecDepth 100000
open Go Go.RowKit
section
variable {B : World} {L : Lg B} {K : Value → St → Prop} {G : Nat → Prop} {s : St}
theorem free1_ok {P : L.U → Prop} {φ : L.U → L.U} {lv gv : Value} {uo i : Int} {h : HF} {x1 x2 x3 b o n cap : Nat} {cs : Array Value} {ty : TypeId} (h1 : h x1 = some (.raw (.cells #[gv] 78 (0, 0)))) (h2 : h x2 = some (.raw (.cells #[.slice (some ⟨b, o, none⟩) (n + 1) cap] 22 (0, 0))))
    (h3 : h x3 = some (.raw (.cells #[.int .i64 uo] 3 (0, 0)))) (hb : ∀ G u s, Env L h G u s → s.m b = some (.raw (.cells cs ty (0, 0)))) (x0 : cs[o]? = some (.int .i64 i))
    (ha : RdOk L 51 #[gv, .int .i64 i] lv h) (hf : OpOk L (fun _ => True) 100 #[lv, .int .i64 uo] (fun _ _ => True) φ h) :
    FxOk L P φ (fun _ => h) (.func (.func 99) #[] #[.pointer (some ⟨x1, 0, none⟩), .pointer (some ⟨x2, 0, none⟩), .pointer (some ⟨x3, 0, none⟩)]) h := by
  refine .inr ⟨_, _, _, rfl, fun G u s he _ => ?_⟩
  have m1 := he.sub _ _ h1
  have m2 := he.sub _ _ h2
  have m3 := he.sub _ _ h3
  have mb := hb _ _ _ he
  have e8 : (0 : Int) < (n : Int) + 1 := by omega
  refine Fn.of is99 (by simp) fun hwf => ?_
  simp only [b99, Tryz.f99, Option.getD_some]
  simp -implicitDefEqProofs (disch := first | omega | (simp only [St.set_n, St.up_n, List.length_cons, List.length_nil]; omega)) only [go_sem, Nat.reduceAdd, Nat.reduceMul, Nat.reduceSub, Int.reduceAdd, Int.reduceMul, Int.reduceSub, Int.reduceNeg, Int.reduceToNat, m1, m2, m3, mb, x0, e8]
  refine effD_quiet lv (fun m hm => ?_) ?_
  · simp -implicitDefEqProofs (disch := first | omega | (simp only [St.set_n, St.up_n, List.length_cons, List.length_nil]; omega)) only [go_sem, Nat.reduceAdd, Nat.reduceMul, Nat.reduceSub, Int.reduceAdd, Int.reduceMul, Int.reduceSub, Int.reduceNeg, Int.reduceToNat]
    exact (ha _ _ _ (he.up hm)).mono fun r s' ⟨h1, h2⟩ => ⟨h1, m, Nat.le_refl _, h2⟩
  simp -implicitDefEqProofs (disch := first | omega | (simp only [St.set_n, St.up_n, List.length_cons, List.length_nil]; omega)) only [go_sem, Nat.reduceAdd, Nat.reduceMul, Nat.reduceSub, Int.reduceAdd, Int.reduceMul, Int.reduceSub, Int.reduceNeg, Int.reduceToNat, m3]
  refine effD_cut (by kernel_rfl) ?_
  intro jj hjj
  simp -implicitDefEqProofs (disch := first | omega | (simp only [St.set_n, St.up_n, List.length_cons, List.length_nil]; omega)) only [go_sem, Nat.reduceAdd, Nat.reduceMul, Nat.reduceSub, Int.reduceAdd, Int.reduceMul, Int.reduceSub, Int.reduceNeg, Int.reduceToNat]
  refine callF_of ((hf _ _ _ (he.up hjj) trivial).mono fun r s' ⟨_, ha'⟩ => ?_)
  have hn2 : s.n ≤ (s.up jj).n := by simp only [St.up_n]; omega
  have hA := Aft.since (s1 := s.up jj) he (fun c _ => rfl) hn2 ha'
  simp -implicitDefEqProofs (disch := first | omega | (simp only [St.set_n, St.up_n, List.length_cons, List.length_nil]; omega)) only [go_sem, Nat.reduceAdd, Nat.reduceMul, Nat.reduceSub, Int.reduceAdd, Int.reduceMul, Int.reduceSub, Int.reduceNeg, Int.reduceToNat]
  first | exact hA | (intro j3 hj3; exact hA.up hj3)
def FreeP (L : Lg B) (Ps : List Int → L.U → Prop) (t n : Nat) (ψs : List Int → L.U → L.U × List L.A) (φ : Int → L.U → L.U) (lv : Int → Value) (gv nv : Value) (uo : Int) (os : List Int) : Prop :=
  ∀ (h : HF) (G : Nat → Prop) (u : L.U) (s : St) (ov : Value) (K : Value → St → Prop),
    (∀ i ∈ os, RdOk L 51 #[gv, .int .i64 i] (lv i) h) → (∀ i ∈ os, OpOk L (fun _ => True) 100 #[lv i, .int .i64 uo] (fun _ _ => True) (φ i) h) →
    OrdV L h ov os → NxOk L (Ps []) t n (ψs []) nv h → Env L h G u s → Ps os u → (∀ v' s', Aft L (Rep L t (n + os.length) (ψs os u).2) G (ψs os u).1 s v' s' → s'.wf B → K v' s') →
    Fn Tryz.prog B 82 #[gv, ov, .int .i64 uo, nv] s K
set_option maxHeartbeats 1000000 in
theorem free_step {Ps : List Int → L.U → Prop} {t n : Nat} {ψs : List Int → L.U → L.U × List L.A} {φ : Int → L.U → L.U} {al : List Int → L.A} {rl : List Int → List L.A} {lv : Int → Value} {gv nv : Value} {uo : Int} (hg : PtV gv)
    (hψ : ∀ i rest u, ψs (i :: rest) u = (u, al (i :: rest) :: rl (i :: rest)))
    (hps : ∀ i rest u, L.pre t u (al (i :: rest)) → Ps rest (φ i u))
    (hex : ∀ i rest u, L.pre t u (al (i :: rest)) → (L.ex t u (al (i :: rest))).2.2 = true ∧ (L.ex t u (al (i :: rest))).1 = (ψs rest (φ i u)).1 ∧ (L.ex t u (al (i :: rest))).2.1 ++ rl (i :: rest) = (ψs rest (φ i u)).2) {os : List Int}
    (ih : ∀ i rest, os = i :: rest → FreeP L Ps t n ψs φ lv gv nv uo rest) : FreeP L Ps t n ψs φ lv gv nv uo os := by
  intro h G u s ov K ha ht ho hn he hp hK
  obtain ⟨A, cap, rfl, hcap, hA⟩ := ho.is
  refine Fn.of is82 (by simp) fun hwf => ?_
  have hB := hwf.1
  simp only [b82, Tryz.f82, Option.getD_some]
  simp -implicitDefEqProofs (disch := first | omega | (simp only [St.set_n, St.up_n, List.length_cons, List.length_nil]; omega)) only [go_sem, Nat.reduceAdd, Nat.reduceMul, Nat.reduceSub, Int.reduceAdd, Int.reduceMul, Int.reduceSub, Int.reduceNeg, Int.reduceToNat, hg.one.1, hg.one.2, hn.one.1, hn.one.2]
  have key : ∀ s1, s1 = ((((s.set s.n (.raw (.cells #[gv] 78 (0, 0)))).set (s.n + 1) (.raw (.cells #[.slice A os.length cap] 22 (0, 0)))).set (s.n + 1 + 1) (.raw (.cells #[.int .i64 uo] 3 (0, 0)))).set (s.n + 1 + 1 + 1) (.raw (.cells #[nv] 110 (0, 0)))).up (s.n + 1 + 1 + 1 + 1) →
      (∀ c, c < s.n → s1.m c = s.m c) ∧ s1.wf B ∧ s.n ≤ s1.n ∧ s1.m s.n = some (.raw (.cells #[gv] 78 (0, 0))) ∧ s1.m (s.n + 1) = some (.raw (.cells #[.slice A os.length cap] 22 (0, 0))) ∧ s1.m (s.n + 1 + 1) = some (.raw (.cells #[.int .i64 uo] 3 (0, 0))) ∧ s1.m (s.n + 1 + 1 + 1) = some (.raw (.cells #[nv] 110 (0, 0))) := by
    rintro s1 rfl
    refine ⟨fun c hc => by simp -implicitDefEqProofs (disch := first | omega | (simp only [St.set_n, St.up_n, List.length_cons, List.length_nil]; omega)) only [go_sem, Nat.reduceAdd, Nat.reduceMul, Nat.reduceSub, Int.reduceAdd, Int.reduceMul, Int.reduceSub, Int.reduceNeg, Int.reduceToNat], ⟨by simp only [St.up_n]; omega, fun c x hx => ?_⟩, by simp only [St.up_n]; omega, by simp -implicitDefEqProofs (disch := first | omega | (simp only [St.set_n, St.up_n, List.length_cons, List.length_nil]; omega)) only [go_sem, Nat.reduceAdd, Nat.reduceMul, Nat.reduceSub, Int.reduceAdd, Int.reduceMul, Int.reduceSub, Int.reduceNeg, Int.reduceToNat], by simp -implicitDefEqProofs (disch := first | omega | (simp only [St.set_n, St.up_n, List.length_cons, List.length_nil]; omega)) only [go_sem, Nat.reduceAdd, Nat.reduceMul, Nat.reduceSub, Int.reduceAdd, Int.reduceMul, Int.reduceSub, Int.reduceNeg, Int.reduceToNat], by simp -implicitDefEqProofs (disch := first | omega | (simp only [St.set_n, St.up_n, List.length_cons, List.length_nil]; omega)) only [go_sem, Nat.reduceAdd, Nat.reduceMul, Nat.reduceSub, Int.reduceAdd, Int.reduceMul, Int.reduceSub, Int.reduceNeg, Int.reduceToNat], by simp -implicitDefEqProofs (disch := first | omega | (simp only [St.set_n, St.up_n, List.length_cons, List.length_nil]; omega)) only [go_sem, Nat.reduceAdd, Nat.reduceMul, Nat.reduceSub, Int.reduceAdd, Int.reduceMul, Int.reduceSub, Int.reduceNeg, Int.reduceToNat]⟩
    simp only [St.up_m, St.set, St.up_n] at hx ⊢
    split at hx
    · omega
    · split at hx
      · omega
      · split at hx
        · omega
        · split at hx
          · omega
          · have := hwf.2 _ _ hx; omega
  obtain ⟨hk, hw, hn1, m1, m2, m3, m4⟩ := key _ rfl
  by_cases h0 : (os.length : Int) = 0
  · have h0' : os = [] := List.length_eq_zero_iff.1 (by omega)
    simp -implicitDefEqProofs (disch := first | omega | (simp only [St.set_n, St.up_n, List.length_cons, List.length_nil]; omega)) only [go_sem, Nat.reduceAdd, Nat.reduceMul, Nat.reduceSub, Int.reduceAdd, Int.reduceMul, Int.reduceSub, Int.reduceNeg, Int.reduceToNat, h0]
    generalize ((((s.set s.n (.raw (.cells #[gv] 78 (0, 0)))).set (s.n + 1) (.raw (.cells #[.slice A os.length cap] 22 (0, 0)))).set (s.n + 1 + 1) (.raw (.cells #[.int .i64 uo] 3 (0, 0)))).set (s.n + 1 + 1 + 1) (.raw (.cells #[nv] 110 (0, 0)))).up (s.n + 1 + 1 + 1 + 1) = s1 at hk hw m1 m2 m3 m4 hn1 ⊢
    have he1 := he.grow hk hn1 hw
    subst h0'
    refine callF_of (then_of (hn.more he.gsub) he1 hp fun v' s' ha' hw' => ?_)
    simp -implicitDefEqProofs (disch := first | omega | (simp only [St.set_n, St.up_n, List.length_cons, List.length_nil]; omega)) only [go_sem, Nat.reduceAdd, Nat.reduceMul, Nat.reduceSub, Int.reduceAdd, Int.reduceMul, Int.reduceSub, Int.reduceNeg, Int.reduceToNat]
    exact hK _ _ (Aft.since he hk hn1 ha') hw'
  · simp -implicitDefEqProofs (disch := first | omega | (simp only [St.set_n, St.up_n, List.length_cons, List.length_nil]; omega)) only [go_sem, Nat.reduceAdd, Nat.reduceMul, Nat.reduceSub, Int.reduceAdd, Int.reduceMul, Int.reduceSub, Int.reduceNeg, Int.reduceToNat, h0]
    obtain ⟨i, rest, rfl⟩ : ∃ i rest, os = i :: rest := by
      cases os with
      | nil => exact absurd rfl h0
      | cons i rest => exact ⟨i, rest, rfl⟩
    obtain ⟨b, o, cs, ty, rfl, hb, hx⟩ := hA (by simp)
    have x0 : cs[o]? = some (.int .i64 i) := by have := hx 0 i rfl; simpa using this
    simp only [List.length_cons] at m2 hcap
    have e9 : (1 : Int) ≤ (rest.length : Int) + 1 := by omega
    generalize ((((s.set s.n (.raw (.cells #[gv] 78 (0, 0)))).set (s.n + 1) (.raw (.cells #[.slice (some ⟨b, o, none⟩) (rest.length + 1) cap] 22 (0, 0)))).set (s.n + 1 + 1) (.raw (.cells #[.int .i64 uo] 3 (0, 0)))).set (s.n + 1 + 1 + 1) (.raw (.cells #[nv] 110 (0, 0)))).up (s.n + 1 + 1 + 1 + 1) = s1 at hk hw m1 m2 m3 m4 hn1 ⊢
    have he1 := he.grow hk hn1 hw
    have mm : ∀ c y, s.n ≤ c → s1.m c = some y → grow h s s1 c = some y := fun c y hc hx => by unfold grow; rw [if_pos hc]; exact hx
    refine callF_of (do_of (t := t) (n := n + rest.length) (a := al (i :: rest)) (r := rl (i :: rest)) (φ := φ i) (η := fun _ => grow h s s1) (ψ := fun _ => ψs rest) (free1_ok (mm _ _ (by omega) m1) (mm _ _ (by omega) m2) (mm _ _ (by omega) m3) (fun _ _ _ h => hb _ _ _ (h.less he.gsub)) x0 ((ha i (by simp)).more he.gsub) ((ht i (by simp)).more he.gsub)) (fun _ _ hc => hc) ⟨rfl, rfl⟩ (fun u0 hp0 => .inr ⟨_, _, _, rfl, fun G2 u2 s2 hE hu2 => ?_⟩) (fun u2 hp2 => hex i rest u2 hp2) he1 fun v' s' ha' hw' => ?_)
    · have o1 := hE.sub _ _ (mm _ _ (Nat.le_refl _) m1)
      have o2 := hE.sub _ _ (mm (s.n + 1) _ (by omega) m2)
      have o3 := hE.sub _ _ (mm (s.n + 1 + 1) _ (by omega) m3)
      have o4 := hE.sub _ _ (mm (s.n + 1 + 1 + 1) _ (by omega) m4)
      refine Fn.of is101 (by simp) fun hwf2 => ?_
      simp only [b101, Tryz.f101, Option.getD_some]
      simp -implicitDefEqProofs (disch := first | omega | (simp only [St.set_n, St.up_n, List.length_cons, List.length_nil]; omega)) only [go_sem, Nat.reduceAdd, Nat.reduceMul, Nat.reduceSub, Int.reduceAdd, Int.reduceMul, Int.reduceSub, Int.reduceNeg, Int.reduceToNat, o1, o2, o3, o4, e9]
      refine effD_cut (by kernel_rfl) ?_
      intro j2 hj2
      simp -implicitDefEqProofs (disch := first | omega | (simp only [St.set_n, St.up_n, List.length_cons, List.length_nil]; omega)) only [go_sem, Nat.reduceAdd, Nat.reduceMul, Nat.reduceSub, Int.reduceAdd, Int.reduceMul, Int.reduceSub, Int.reduceNeg, Int.reduceToNat]
      have hE2 := hE.up hj2
      refine callF_of (ih i rest rfl (grow h s s1) G2 u2 (s2.up j2) _ _ (fun k hk => (ha k (by simp [hk])).more he.gsub) (fun k hk => (ht k (by simp [hk])).more he.gsub) (ho.tail.more he.gsub) (hn.more he.gsub) hE2 (hu2 ▸ hps i rest u0 hp0) fun v' s' ha' hw' => ?_)
      simp -implicitDefEqProofs (disch := first | omega | (simp only [St.set_n, St.up_n, List.length_cons, List.length_nil]; omega)) only [go_sem, Nat.reduceAdd, Nat.reduceMul, Nat.reduceSub, Int.reduceAdd, Int.reduceMul, Int.reduceSub, Int.reduceNeg, Int.reduceToNat]
      intro j3 hj3
      have hn2 : s2.n ≤ (s2.up j2).n := by simp only [St.up_n]; omega
      exact (Aft.since (s1 := s2.up j2) hE (fun c _ => rfl) hn2 ha').up hj3
    · simp -implicitDefEqProofs (disch := first | omega | (simp only [St.set_n, St.up_n, List.length_cons, List.length_nil]; omega)) only [go_sem, Nat.reduceAdd, Nat.reduceMul, Nat.reduceSub, Int.reduceAdd, Int.reduceMul, Int.reduceSub, Int.reduceNeg, Int.reduceToNat]
      refine hK _ _ (Aft.since he hk hn1 ?_) hw'
      have e : n + (i :: rest).length = n + rest.length + 1 := by simp only [List.length_cons]; omega
      rw [e, hψ]
      exact ha'
theorem free_of {Ps : List Int → L.U → Prop} {t n : Nat} {ψs : List Int → L.U → L.U × List L.A} {φ : Int → L.U → L.U} {al : List Int → L.A} {rl : List Int → List L.A} {lv : Int → Value} {gv nv : Value} {uo : Int} (hg : PtV gv)
    (hψ : ∀ i rest u, ψs (i :: rest) u = (u, al (i :: rest) :: rl (i :: rest)))
    (hps : ∀ i rest u, L.pre t u (al (i :: rest)) → Ps rest (φ i u))
    (hex : ∀ i rest u, L.pre t u (al (i :: rest)) → (L.ex t u (al (i :: rest))).2.2 = true ∧ (L.ex t u (al (i :: rest))).1 = (ψs rest (φ i u)).1 ∧ (L.ex t u (al (i :: rest))).2.1 ++ rl (i :: rest) = (ψs rest (φ i u)).2) : ∀ os : List Int, FreeP L Ps t n ψs φ lv gv nv uo os
  | [] => free_step hg hψ hps hex fun i rest h => by cases h
  | i :: os => free_step hg hψ hps hex fun j rest h => by
      injection h with _ e2
      subst e2
      exact free_of hg hψ hps hex _
end
end Go.Proofs.YtdbgeahmhfocaaaGreat
