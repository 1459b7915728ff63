/- 'SchedFull': the walk. -/
import Derived.Test.YtgcojbgkenndhaaMachW
namespace Go.Proofs.Ytgcojbgkenndhaa
set_option pp.deepTerms false
set_option pp.deepTerms.threshold 8
set_option linter.unusedSimpArgs false
set_option linter.unusedVariables false
set_option maxRecDepth 100000
open Go Go.RowKit
section
variable {B : World} {σ τ : St} {K : Value → St → Prop}
abbrev agV (bn ba : Nat) : Value := .func (.func 48) #[] #[.pointer (some ⟨bn, 0, none⟩), .pointer (some ⟨ba, 0, none⟩)]
structure FInv (bn ba : Nat) (G : Nat → Prop) (x : Int) (vs : List Value) (s : St) : Prop where
  vs : vs = [agV bn ba]
  nn : s.m bn = some (.raw (.cells #[.int .i64 x] 3 (0, 0)))
  aa : s.m ba = some (.raw (.cells #[agV bn ba] 94 (0, 0)))
  g1 : ¬ G bn
  g2 : ¬ G ba
  ne : bn ≠ ba
theorem again_call {bn ba : Nat} {x : Int} (hn : σ.m bn = some (.raw (.cells #[.int .i64 x] 3 (0, 0)))) (ha : σ.m ba = some (.raw (.cells #[agV bn ba] 94 (0, 0)))) (hne : bn ≠ ba)
    (hK : K (.tuple #[agV bn ba, .bool (decide (IntKind.i64.wrap (x + 1) < 70000))]) (σ.set bn (.raw (.cells #[.int .i64 (IntKind.i64.wrap (x + 1))] 3 (0, 0))))) : Fn Try.prog B 48 #[.pointer (some ⟨bn, 0, none⟩), .pointer (some ⟨ba, 0, none⟩)] σ K := by
  refine Fn.of is48 (by simp) fun hwf => ?_
  simp only [b48, Try.f48, Option.getD_some]
  simp -implicitDefEqProofs (disch := first | omega | (simp only [St.set_n, St.up_n, List.length_cons, List.length_nil]; omega)) only [go_sem, Nat.reduceAdd, Nat.reduceMul, Nat.reduceSub, Int.reduceAdd, Int.reduceMul, Int.reduceSub, Int.reduceNeg, Int.reduceToNat, hn, ha, hne]
  exact hK
def fullSys (bn ba : Nat) : Sys B where
  X := Int
  n := 1
  live := fun _ t => decide (t < 1)
  tr := fun x _ => (IntKind.i64.wrap (x + 1), decide (IntKind.i64.wrap (x + 1) < 70000))
  Inv := fun G x vs s => FInv bn ba G x vs s
  len := fun h => by rw [h.vs]; rfl
  val := by
    intro G x vs s t v h hv
    rw [h.vs] at hv
    match t, hv with
    | 0, hv => simp at hv; subst hv; exact .inr ⟨rfl, _, _, _, rfl⟩
    | t + 1, hv => simp at hv
  fresh := by
    intro G x vs s q h hq _
    refine ⟨h.vs, h.nn, h.aa, fun hg => ?_, fun hg => ?_, h.ne⟩
    · rcases hg with hg | hg
      · exact h.g1 hg
      · have := h.nn; rw [hg, hq] at this; cases this
    · rcases hg with hg | hg
      · exact h.g2 hg
      · have := h.aa; rw [hg, hq] at this; cases this
  weak := fun h hG => ⟨h.vs, h.nn, h.aa, fun hg => h.g1 (hG _ hg), fun hg => h.g2 (hG _ hg), h.ne⟩
  stable := fun h hk _ => ⟨h.vs, hk _ _ h.g1 h.nn, hk _ _ h.g2 h.aa, h.g1, h.g2, h.ne⟩
  step := by
    intro G x vs s t f c1 c2 hws h hlv hv
    rw [h.vs] at hv
    have ht : t = 0 := by simpa using hlv
    subst ht
    simp at hv
    obtain ⟨rfl, rfl, rfl⟩ := hv
    have hba := Ne.symm h.ne
    have h1 := h.aa
    refine again_call h.nn h.aa h.ne ⟨_, rfl, .inr ⟨_, _, _, rfl⟩, ⟨?_, by simp -implicitDefEqProofs (disch := first | omega | (simp only [St.set_n, St.up_n, List.length_cons, List.length_nil]; omega)) only [go_sem, Nat.reduceAdd, Nat.reduceMul, Nat.reduceSub, Int.reduceAdd, Int.reduceMul, Int.reduceSub, Int.reduceNeg, Int.reduceToNat], by simp -implicitDefEqProofs (disch := first | omega | (simp only [St.set_n, St.up_n, List.length_cons, List.length_nil]; omega)) only [go_sem, Nat.reduceAdd, Nat.reduceMul, Nat.reduceSub, Int.reduceAdd, Int.reduceMul, Int.reduceSub, Int.reduceNeg, Int.reduceToNat, h1], h.g1, h.g2, h.ne⟩, Nat.le_refl _, fun c y hc hx => ?_⟩
    · rw [h.vs]; split <;> rfl
    · have : c ≠ bn := fun e => h.g1 (e ▸ hc)
      simp -implicitDefEqProofs (disch := first | omega | (simp only [St.set_n, St.up_n, List.length_cons, List.length_nil]; omega)) only [go_sem, Nat.reduceAdd, Nat.reduceMul, Nat.reduceSub, Int.reduceAdd, Int.reduceMul, Int.reduceSub, Int.reduceNeg, Int.reduceToNat, hx]
def fx {bn ba : Nat} (a : (fullSys (B := B) bn ba).MA) : Int := a.x
structure Good {bn ba : Nat} (a : (fullSys (B := B) bn ba).MA) : Prop where
  x : fx a = (a.mv.length : Int)
  l : a.mv.length ≤ 65536
theorem full_is {bn ba : Nat} (a : (fullSys (B := B) bn ba).MA) : Sys.fullA a = decide (65536 ≤ a.mv.length) := by
  have : Sys.leftA a.x = true := rfl
  rw [Sys.fullA, this, Bool.and_true]
theorem Good.turn {bn ba : Nat} {a : (fullSys (B := B) bn ba).MA} (h : Good a) (hl : a.mv.length < 65536) (t : Int) : Good (Sys.turnA a t).1 ∧ (t = 0 → (Sys.turnA a t).2 = true ∧ (Sys.turnA a t).1.mv.length = a.mv.length + 1) := by
  have hw : IntKind.i64.wrap (fx a + 1) = a.mv.length + 1 := by rw [h.x]; exact wrap_i64 (by omega)
  have htr : (fullSys (B := B) bn ba).tr a.x t.toNat = ((a.mv.length : Int) + 1, true) := by
    show (IntKind.i64.wrap (fx a + 1), decide (IntKind.i64.wrap (fx a + 1) < 70000)) = _
    rw [hw]
    have : ((a.mv.length : Int) + 1 < 70000) := by omega
    simp [this]
  unfold Sys.turnA
  by_cases h0 : t = 0
  · subst h0
    rw [if_pos ⟨by omega, by show (0 : Int) < ((1 : Nat) : Int); omega, rfl⟩, htr]
    refine ⟨⟨by show ((a.mv.length : Int) + 1) = _; simp, by simp; omega⟩, fun _ => ⟨rfl, by simp⟩⟩
  · rw [if_neg fun h2 => by
      have h3 : t < ((1 : Nat) : Int) := h2.2.1
      omega]
    exact ⟨h, fun e => absurd e h0⟩
theorem Good.picks {bn ba : Nat} : ∀ (ps : List Int) (a : (fullSys (B := B) bn ba).MA), Good a → Good (Sys.picksA a ps)
  | [], a, h => h
  | p :: ps, a, h => by
    rw [Sys.picksA, full_is]
    split
    · exact h
    · rename_i hn
      exact Good.picks ps _ (h.turn (by simpa using hn) p).1
theorem Good.loop {bn ba : Nat} : ∀ (k : Nat) (a : (fullSys (B := B) bn ba).MA), Good a → 65537 - a.mv.length ≤ k → (Sys.loopA k a).2 = 12 ∧ (Sys.loopA k a).1.mv.length = 65536 ∧ fx (Sys.loopA k a).1 = (65536 : Int)
  | 0, a, h, hk => by have := h.l; omega
  | k + 1, a, h, hk => by
    have hl : Sys.leftA a.x = true := rfl
    rw [Sys.loopA, hl, full_is]
    simp only [if_true]
    by_cases h1 : 65536 ≤ a.mv.length
    · have h2 := h.l
      have h3 : a.mv.length = 65536 := by omega
      simp only [h1, decide_true, if_true]
      exact ⟨trivial, h3, by rw [h.x, h3]; rfl⟩
    · simp only [h1, decide_false, Bool.false_eq_true, if_false]
      obtain ⟨h2, h3⟩ := h.turn (by omega) 0
      obtain ⟨h4, h5⟩ := h3 rfl
      have hr : Sys.roundA a 0 false (fullSys (B := B) bn ba).n = ((Sys.turnA a 0).1, true) := by
        show Sys.roundA a 0 false 1 = _
        rw [Sys.roundA, full_is]
        simp only [h1, decide_false, Bool.false_eq_true, if_false]
        have e0 : ((0 : Nat) : Int) = 0 := rfl
        rw [e0, Sys.roundA, h4]; rfl
      rw [hr]
      simp only [if_true]
      exact Good.loop k _ h2 (by omega)
set_option maxHeartbeats 4000000 in
theorem full06 {picks : List Int} {v : Value} (hp : SlR B 1 RInt picks v) (hK : ∀ k, σ.n ≤ k → K (.bool true) (σ.up k)) : Fn Try.prog B 11 #[v] σ K := by
  have hp' := hp
  obtain ⟨a, cap, rfl, hlc, hcm, hnil, hat⟩ := hp
  refine Fn.of' is11 (by simp) fun hwf => ?_
  simp only [b11, Try.f11, Option.getD_some]
  simp -implicitDefEqProofs (disch := first | omega | (simp only [St.set_n, St.up_n, List.length_cons, List.length_nil]; omega)) only [go_sem, Nat.reduceAdd, Nat.reduceMul, Nat.reduceSub, Int.reduceAdd, Int.reduceMul, Int.reduceSub, Int.reduceNeg, Int.reduceToNat]
  refine callF_of (awake06 fun k1 hk1 => ?_)
  simp -implicitDefEqProofs (disch := first | omega | (simp only [St.set_n, St.up_n, List.length_cons, List.length_nil]; omega)) only [go_sem, Nat.reduceAdd, Nat.reduceMul, Nat.reduceSub, Int.reduceAdd, Int.reduceMul, Int.reduceSub, Int.reduceNeg, Int.reduceToNat]
  by_cases h500 : (500 : Int) < picks.length
  · simp -implicitDefEqProofs (disch := first | omega | (simp only [St.set_n, St.up_n, List.length_cons, List.length_nil]; omega)) only [go_sem, Nat.reduceAdd, Nat.reduceMul, Nat.reduceSub, Int.reduceAdd, Int.reduceMul, Int.reduceSub, Int.reduceNeg, Int.reduceToNat, h500]
    exact ⟨_, To.same (fun d y h2 h3 => by simp -implicitDefEqProofs (disch := first | omega | (simp only [St.set_n, St.up_n, List.length_cons, List.length_nil]; omega)) only [go_sem, Nat.reduceAdd, Nat.reduceMul, Nat.reduceSub, Int.reduceAdd, Int.reduceMul, Int.reduceSub, Int.reduceNeg, Int.reduceToNat, h3]) hwf, hK _ (by simp only [St.up_n]; omega)⟩
  simp -implicitDefEqProofs (disch := first | omega | (simp only [St.set_n, St.up_n, List.length_cons, List.length_nil]; omega)) only [go_sem, Nat.reduceAdd, Nat.reduceMul, Nat.reduceSub, Int.reduceAdd, Int.reduceMul, Int.reduceSub, Int.reduceNeg, Int.reduceToNat, h500]
  have hI : (fullSys (B := B) k1 (k1 + 1)).Inv (fun c => c < σ.n) (0 : Int) [agV k1 (k1 + 1)] ((((σ.set k1 (.raw (.cells #[.int .i64 0] 3 (0, 0)))).set (k1 + 1) (.raw (.cells #[agV k1 (k1 + 1)] 94 (0, 0)))).set (k1 + 1 + 1) (.raw (.cells #[agV k1 (k1 + 1)] 94 (0, 0)))).up (k1 + 1 + 1 + 1)) :=
    ⟨rfl, by simp -implicitDefEqProofs (disch := first | omega | (simp only [St.set_n, St.up_n, List.length_cons, List.length_nil]; omega)) only [go_sem, Nat.reduceAdd, Nat.reduceMul, Nat.reduceSub, Int.reduceAdd, Int.reduceMul, Int.reduceSub, Int.reduceNeg, Int.reduceToNat], by simp -implicitDefEqProofs (disch := first | omega | (simp only [St.set_n, St.up_n, List.length_cons, List.length_nil]; omega)) only [go_sem, Nat.reduceAdd, Nat.reduceMul, Nat.reduceSub, Int.reduceAdd, Int.reduceMul, Int.reduceSub, Int.reduceNeg, Int.reduceToNat], by omega, by omega, by omega⟩
  have hx3 : ((((σ.set k1 (.raw (.cells #[.int .i64 0] 3 (0, 0)))).set (k1 + 1) (.raw (.cells #[agV k1 (k1 + 1)] 94 (0, 0)))).set (k1 + 1 + 1) (.raw (.cells #[agV k1 (k1 + 1)] 94 (0, 0)))).up (k1 + 1 + 1 + 1)).m (k1 + 1 + 1) = some (.raw (.cells [agV k1 (k1 + 1)].toArray 94 (0, 0))) := by simp -implicitDefEqProofs (disch := first | omega | (simp only [St.set_n, St.up_n, List.length_cons, List.length_nil]; omega)) only [go_sem, Nat.reduceAdd, Nat.reduceMul, Nat.reduceSub, Int.reduceAdd, Int.reduceMul, Int.reduceSub, Int.reduceNeg, Int.reduceToNat]
  have hn3 : k1 + 1 + 1 < ((((σ.set k1 (.raw (.cells #[.int .i64 0] 3 (0, 0)))).set (k1 + 1) (.raw (.cells #[agV k1 (k1 + 1)] 94 (0, 0)))).set (k1 + 1 + 1) (.raw (.cells #[agV k1 (k1 + 1)] 94 (0, 0)))).up (k1 + 1 + 1 + 1)).n := by simp only [St.up_n]; omega
  have hk3 : ∀ c, c < σ.n → ((((σ.set k1 (.raw (.cells #[.int .i64 0] 3 (0, 0)))).set (k1 + 1) (.raw (.cells #[agV k1 (k1 + 1)] 94 (0, 0)))).set (k1 + 1 + 1) (.raw (.cells #[agV k1 (k1 + 1)] 94 (0, 0)))).up (k1 + 1 + 1 + 1)).m c = σ.m c := fun c hc => by simp -implicitDefEqProofs (disch := first | omega | (simp only [St.set_n, St.up_n, List.length_cons, List.length_nil]; omega)) only [go_sem, Nat.reduceAdd, Nat.reduceMul, Nat.reduceSub, Int.reduceAdd, Int.reduceMul, Int.reduceSub, Int.reduceNeg, Int.reduceToNat]
  generalize (((σ.set k1 (.raw (.cells #[.int .i64 0] 3 (0, 0)))).set (k1 + 1) (.raw (.cells #[agV k1 (k1 + 1)] 94 (0, 0)))).set (k1 + 1 + 1) (.raw (.cells #[agV k1 (k1 + 1)] 94 (0, 0)))).up (k1 + 1 + 1 + 1) = s3 at hI hx3 hn3 hk3 ⊢
  have hG0 : Good (B := B) (bn := k1) (ba := k1 + 1) ⟨(0 : Int), [], 0⟩ := ⟨rfl, Nat.zero_le _⟩
  have hG1 := hG0.picks picks
  obtain ⟨r1, r2, r3⟩ := hG1.loop 70000 _ (by omega)
  refine callF_wf (m_run hI (show (1 : Nat) ≤ 1000 by omega) (by omega) ⟨⟨_, _, rfl⟩, fc_block hx3 rfl⟩ (fun s hs => fc_block (by rw [hs _ hn3]; exact hx3) rfl) hp' rfl fun mv vs' s4 om hI4 hn4 hk4 hws4 => ?_)
  rw [r1]
  rw [r2] at om
  obtain ⟨Am, cm, rfl, _⟩ := om.is
  have hnn : s4.m k1 = some (.raw (.cells #[.int .i64 (fx (Sys.loopA (Y := fullSys (B := B) k1 (k1 + 1)) 70000 (Sys.picksA ⟨(0 : Int), [], 0⟩ picks)).1)] 3 (0, 0))) := hI4.nn
  rw [r3] at hnn
  have hk1n := (hws4.2 _ _ hnn).2
  have e6 : ((65536 : Nat) : Int) = 65536 := rfl
  simp -implicitDefEqProofs (disch := first | omega | (simp only [St.set_n, St.up_n, List.length_cons, List.length_nil]; omega)) only [go_sem, Nat.reduceAdd, Nat.reduceMul, Nat.reduceSub, Int.reduceAdd, Int.reduceMul, Int.reduceSub, Int.reduceNeg, Int.reduceToNat, hnn, e6]
  refine ⟨_, To.same (fun d y h2 h3 => ?_) hwf, hK _ (by simp only [St.up_n, St.set_n]; omega)⟩
  have h5 := hk4 d y h2 ((hk3 d h2).trans h3)
  simp -implicitDefEqProofs (disch := first | omega | (simp only [St.set_n, St.up_n, List.length_cons, List.length_nil]; omega)) only [go_sem, Nat.reduceAdd, Nat.reduceMul, Nat.reduceSub, Int.reduceAdd, Int.reduceMul, Int.reduceSub, Int.reduceNeg, Int.reduceToNat, h5]
end
end Go.Proofs.Ytgcojbgkenndhaa
