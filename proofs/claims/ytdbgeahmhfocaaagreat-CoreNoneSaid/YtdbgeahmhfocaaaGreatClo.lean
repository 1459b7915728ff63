/- The core's closures: contracts, by walks. -/
import Derived.Test.YtdbgeahmhfocaaaGreatCor
namespace Go.Proofs.YtdbgeahmhfocaaaGreat
set_option linter.unusedSimpArgs false
set_option linter.unusedVariables false
set_option maxRecDepth 100000
open Go Go.RowKit
section
variable {B : World} {q : YB} {nr rn : Nat} {rr rb : Nat → Nat} {H : CU → HF} {K : Value → St → Prop} {G : Nat → Prop} {h : HF} {s : St} {t n : Nat}
/-- What comes next, behind an answer. -/
def NxN (L : Lg B) (t n : Nat) (P : CAn → L.U → Prop) (ψ : CAn → L.U → L.U × List L.A) (nv : Value) (h : HF) : Prop :=
  ∃ f c1 c2, nv = .func (.func f) c1 c2 ∧ ∀ a G u s, Env L h G u s → P a u → Fn Tryz.prog B f (c1 ++ #[.agg (fAn a).toArray] ++ c2) s fun v' s' => Aft L (Rep L t n (ψ a u).2) G (ψ a u).1 s v' s'
theorem NxN.more {L : Lg B} {P : CAn → L.U → Prop} {ψ : CAn → L.U → L.U × List L.A} {nv : Value} {h2 : HF} (hn : NxN L t n P ψ nv h) (hs : ∀ c y, h c = some y → h2 c = some y) : NxN L t n P ψ nv h2 := by
  obtain ⟨f, c1, c2, hv, hc⟩ := hn
  exact ⟨f, c1, c2, hv, fun a G u s he hp => hc a _ u s (he.less hs) hp⟩
theorem NxN.one {L : Lg B} {P : CAn → L.U → Prop} {ψ : CAn → L.U → L.U × List L.A} {nv : Value} (hn : NxN L t n P ψ nv h) : vc nv = #[nv] ∧ nv.oneCell' = true := by
  obtain ⟨_, _, _, rfl, _⟩ := hn; exact ⟨rfl, rfl⟩
theorem hand_of {L : Lg B} {P : CAn → L.U → Prop} {ψ : CAn → L.U → L.U × List L.A} {nv : Value} {a : CAn} {u : L.U} (hn : NxN L t n P ψ nv h) (he : Env L h G u s) (hp : P a u) (hK : ∀ v' s', Aft L (Rep L t n (ψ a u).2) G (ψ a u).1 s v' s' → s'.wf B → K v' s') :
    Fn Tryz.prog B 84 #[.agg (fAn a).toArray, nv] s K := by
  obtain ⟨f, c1, c2, rfl, hc⟩ := hn
  refine Fn.of is84 (by simp) fun hwf => ?_
  simp only [b84, Tryz.f84, Option.getD_some]
  simp -implicitDefEqProofs (disch := first | omega | (simp only [St.set_n, St.up_n, List.length_cons, List.length_nil]; omega)) only [go_sem, Nat.reduceAdd, Nat.reduceMul, Nat.reduceSub, Int.reduceAdd, Int.reduceMul, Int.reduceSub, Int.reduceNeg, Int.reduceToNat, fAn]
  have hk : ∀ c, c < s.n → ((s.set s.n (.raw (.cells (fAn a).toArray 64 (0, 0)))).up (s.n + 1)).m c = s.m c := fun c hc => by simp -implicitDefEqProofs (disch := first | omega | (simp only [St.set_n, St.up_n, List.length_cons, List.length_nil]; omega)) only [go_sem, Nat.reduceAdd, Nat.reduceMul, Nat.reduceSub, Int.reduceAdd, Int.reduceMul, Int.reduceSub, Int.reduceNeg, Int.reduceToNat]
  have hn1 : s.n ≤ ((s.set s.n (.raw (.cells (fAn a).toArray 64 (0, 0)))).up (s.n + 1)).n := by simp only [St.up_n]; omega
  have hw1 := set_wf1 (y := .raw (.cells (fAn a).toArray 64 (0, 0))) hwf
  have he1 : Env L h G u ((s.set s.n (.raw (.cells (fAn a).toArray 64 (0, 0)))).up (s.n + 1)) := (he.grow hk hn1 hw1).less he.gsub
  refine callF_wf ((hc a G u _ he1 hp).mono fun v' s' ha hw => ?_)
  simp -implicitDefEqProofs (disch := first | omega | (simp only [St.set_n, St.up_n, List.length_cons, List.length_nil]; omega)) only [go_sem, Nat.reduceAdd, Nat.reduceMul, Nat.reduceSub, Int.reduceAdd, Int.reduceMul, Int.reduceSub, Int.reduceNeg, Int.reduceToNat]
  exact hK _ _ (Aft.since he hk hn1 ha) hw
theorem answer1_ok {L : Lg B} {P : CAn → L.U → Prop} {Q : L.U → Prop} {ψ : CAn → L.U → L.U × List L.A} {nv : Value} {a : CAn} {b1 b2 : Nat} (h1 : h b1 = some (.raw (.cells (fAn a).toArray 64 (0, 0)))) (h2 : h b2 = some (.raw (.cells #[nv] 65 (0, 0)))) (hn : NxN L t n P ψ nv h) (hq : ∀ u, Q u → P a u) :
    NxOk L Q t n (ψ a) (.func (.func 96) #[] #[.pointer (some ⟨b1, 0, none⟩), .pointer (some ⟨b2, 0, none⟩)]) h := by
  refine .inr ⟨_, _, _, rfl, fun G u s he hp => ?_⟩
  have m1 := he.sub _ _ h1
  have m2 := he.sub _ _ h2
  refine Fn.of is96 (by simp) fun hwf => ?_
  simp only [b96, Tryz.f96, Option.getD_some]
  simp only [fAn] at m1
  simp -implicitDefEqProofs (disch := first | omega | (simp only [St.set_n, St.up_n, List.length_cons, List.length_nil]; omega)) only [go_sem, Nat.reduceAdd, Nat.reduceMul, Nat.reduceSub, Int.reduceAdd, Int.reduceMul, Int.reduceSub, Int.reduceNeg, Int.reduceToNat, m1, m2]
  refine callF_of (hand_of (a := a) hn he (hq u hp) fun v' s' ha hw => ?_)
  simp -implicitDefEqProofs (disch := first | omega | (simp only [St.set_n, St.up_n, List.length_cons, List.length_nil]; omega)) only [go_sem, Nat.reduceAdd, Nat.reduceMul, Nat.reduceSub, Int.reduceAdd, Int.reduceMul, Int.reduceSub, Int.reduceNeg, Int.reduceToNat]
  exact ha
theorem w121_ok {L : Lg B} {P : CAn → L.U → Prop} {Q : L.U → Prop} {ψ : CAn → L.U → L.U × List L.A} {nv : Value} {a : CAn} {b1 b2 : Nat} (h1 : h b1 = some (.raw (.cells (fAn a).toArray 64 (0, 0)))) (h2 : h b2 = some (.raw (.cells #[nv] 65 (0, 0)))) (hn : NxN L t n P ψ nv h) (hq : ∀ u, Q u → P a u) :
    NxOk L Q t n (ψ a) (.func (.func 83) #[] #[.pointer (some ⟨b1, 0, none⟩), .pointer (some ⟨b2, 0, none⟩)]) h := by
  refine .inr ⟨_, _, _, rfl, fun G u s he hp => ?_⟩
  have m1 := he.sub _ _ h1
  have m2 := he.sub _ _ h2
  refine Fn.of is83 (by simp) fun hwf => ?_
  simp only [b83, Tryz.f83, Option.getD_some]
  simp only [fAn] at m1
  simp -implicitDefEqProofs (disch := first | omega | (simp only [St.set_n, St.up_n, List.length_cons, List.length_nil]; omega)) only [go_sem, Nat.reduceAdd, Nat.reduceMul, Nat.reduceSub, Int.reduceAdd, Int.reduceMul, Int.reduceSub, Int.reduceNeg, Int.reduceToNat, m1, m2]
  refine callF_of (hand_of (a := a) hn he (hq u hp) fun v' s' ha hw => ?_)
  simp -implicitDefEqProofs (disch := first | omega | (simp only [St.set_n, St.up_n, List.length_cons, List.length_nil]; omega)) only [go_sem, Nat.reduceAdd, Nat.reduceMul, Nat.reduceSub, Int.reduceAdd, Int.reduceMul, Int.reduceSub, Int.reduceNeg, Int.reduceToNat]
  exact ha
/-- 'Answer': a step that hands an answer on. -/
theorem answer_of {L : Lg B} {P : CAn → L.U → Prop} {ψ : CAn → L.U → L.U × List L.A} {nv : Value} {a : CAn} {x : L.A} {r : List L.A} {u : L.U} (hn : NxN L t n P ψ nv h) (hq : ∀ u, L.pre t u x → P a u)
    (hex : ∀ u, L.pre t u x → (L.ex t u x).2.2 = true ∧ (L.ex t u x).1 = (ψ a u).1 ∧ (L.ex t u x).2.1 ++ r = (ψ a u).2) (he : Env L h G u s) (hK : ∀ v' s', Aft L (Rep L t (n + 1) (x :: r)) G u s v' s' → s'.wf B → K v' s') :
    Fn Tryz.prog B 76 #[.agg (fAn a).toArray, nv] s K := by
  refine Fn.of is76 (by simp) fun hwf => ?_
  simp only [b76, Tryz.f76, Option.getD_some]
  simp -implicitDefEqProofs (disch := first | omega | (simp only [St.set_n, St.up_n, List.length_cons, List.length_nil]; omega)) only [go_sem, Nat.reduceAdd, Nat.reduceMul, Nat.reduceSub, Int.reduceAdd, Int.reduceMul, Int.reduceSub, Int.reduceNeg, Int.reduceToNat, fAn, hn.one.1, hn.one.2]
  have key : ∀ s1, s1 = ((s.set s.n (.raw (.cells (fAn a).toArray 64 (0, 0)))).set (s.n + 1) (.raw (.cells #[nv] 65 (0, 0)))).up (s.n + 1 + 1) →
      (∀ c, c < s.n → s1.m c = s.m c) ∧ s1.wf B ∧ s.n ≤ s1.n ∧ s1.m s.n = some (.raw (.cells (fAn a).toArray 64 (0, 0))) ∧ s1.m (s.n + 1) = some (.raw (.cells #[nv] 65 (0, 0))) := by
    rintro s1 rfl
    have hw := set_wf1 (y := .raw (.cells #[nv] 65 (0, 0))) (set_wf1 (y := .raw (.cells (fAn a).toArray 64 (0, 0))) hwf)
    simp only [St.up_n] at hw
    exact ⟨fun c hc => by simp -implicitDefEqProofs (disch := first | omega | (simp only [St.set_n, St.up_n, List.length_cons, List.length_nil]; omega)) only [go_sem, Nat.reduceAdd, Nat.reduceMul, Nat.reduceSub, Int.reduceAdd, Int.reduceMul, Int.reduceSub, Int.reduceNeg, Int.reduceToNat], hw, by simp only [St.up_n]; omega, by simp -implicitDefEqProofs (disch := first | omega | (simp only [St.set_n, St.up_n, List.length_cons, List.length_nil]; omega)) only [go_sem, Nat.reduceAdd, Nat.reduceMul, Nat.reduceSub, Int.reduceAdd, Int.reduceMul, Int.reduceSub, Int.reduceNeg, Int.reduceToNat], by simp -implicitDefEqProofs (disch := first | omega | (simp only [St.set_n, St.up_n, List.length_cons, List.length_nil]; omega)) only [go_sem, Nat.reduceAdd, Nat.reduceMul, Nat.reduceSub, Int.reduceAdd, Int.reduceMul, Int.reduceSub, Int.reduceNeg, Int.reduceToNat]⟩
  obtain ⟨hk, hw, hn1, m1, m2⟩ := key _ rfl
  have e0 : (#[.int .i64 a.err, .int .i64 a.a, .int .i64 a.b, .string a.topic, .string a.pay, .bool a.kept] : Array Value) = (fAn a).toArray := rfl
  rw [e0]
  generalize ((s.set s.n (.raw (.cells (fAn a).toArray 64 (0, 0)))).set (s.n + 1) (.raw (.cells #[nv] 65 (0, 0)))).up (s.n + 1 + 1) = s1 at hk hw hn1 m1 m2 ⊢
  have he1 := he.grow hk hn1 hw
  refine callF_of (do_of (L := L) (t := t) (n := n) (a := x) (r := r) (φ := fun u => u) (η := fun _ => grow h s s1) (ψ := fun _ => ψ a) (.inl ⟨rfl, fun u => ⟨rfl, rfl⟩⟩) (fun _ _ h => h) ⟨rfl, rfl⟩ (fun u0 hp0 => answer1_ok (gro (Nat.le_refl _) m1) (gro (by omega) m2) (hn.more he.gsub) fun u1 e => e ▸ hq u0 hp0) hex he1 fun v' s' ha hw' => ?_)
  simp -implicitDefEqProofs (disch := first | omega | (simp only [St.set_n, St.up_n, List.length_cons, List.length_nil]; omega)) only [go_sem, Nat.reduceAdd, Nat.reduceMul, Nat.reduceSub, Int.reduceAdd, Int.reduceMul, Int.reduceSub, Int.reduceNeg, Int.reduceToNat]
  exact hK _ _ (Aft.since he hk hn1 ha) hw'
end
end Go.Proofs.YtdbgeahmhfocaaaGreat
