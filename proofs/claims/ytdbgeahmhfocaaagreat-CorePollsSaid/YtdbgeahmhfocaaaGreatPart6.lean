/- The texts of this proof, part 6: the engine, the walks and the plain laws, in their order. -/
import Derived.Test.YtdbgeahmhfocaaaGreatPart5
/- A core when all is quiet: contracts, by walks. -/
namespace Go.Proofs.YtdbgeahmhfocaaaGreat
set_option pp.deepTerms false
set_option pp.deepTerms.threshold 8
set_option linter.unusedSimpArgs false
set_option linter.unusedVariables false
set_option maxRecDepth 100000
open Go Go.RowKit
section
variable {B : World} {σ : St} {K : Value → St → Prop}
structure WtZ (A2 A3 A4 : Option Addr) (c2 c3 c4 i : Nat) (e : Fr) : Prop where
  v3 : e.v 3 = .int .i64 0
  v11 : e.v 11 = .agg #[.slice A2 0 c2, .slice A3 0 c3, .slice A4 0 c4]
  v12 : e.v 12 = .int .i64 i
  d : e.d = []
theorem ep_waiting0 {S : ES} {p : Nat} (hm : σ.m p = some (.comp (EpR S p))) (h0 : S.l0 = []) (h1 : S.l1 = []) (h2 : S.l2 = [])
    (hK : ∀ k, σ.n ≤ k → K (.int .i64 0) (σ.up k)) : Fn Tryz.prog B 53 #[.pointer (some ⟨p, 0, none⟩)] σ K := by
  refine Fn.opn hm is53 (by simp) fun vs τ hn O => ?_
  obtain ⟨v1, v2, v3, v4, rfl, o1, o2, o3, o4⟩ := O.own.four
  simp only [h0, h1, h2, List.length_nil] at o1 o2 o3 o4
  obtain ⟨A2, c2, rfl, _⟩ := o2.is
  obtain ⟨A3, c3, rfl, _⟩ := o3.is
  obtain ⟨A4, c4, rfl, _⟩ := o4.is
  have hr := O.root
  simp only [epRoot_four] at hr
  simp only [b53, Tryz.f53, Option.getD_some]
  simp -implicitDefEqProofs (disch := first | omega | (simp only [St.set_n, St.up_n, List.length_cons, List.length_nil]; omega)) only [go_sem, Nat.reduceAdd, Nat.reduceMul, Nat.reduceSub, Int.reduceAdd, Int.reduceMul, Int.reduceSub, Int.reduceNeg, Int.reduceToNat, hr]
  refine loop_rule (fun m e s => ∃ i : Nat, m = 3 - i ∧ i ≤ 3 ∧ WtZ A2 A3 A4 c2 c3 c4 i e ∧ s = τ) 3 ?_ ?_
  · exact ⟨0, by omega, by omega, ⟨by simp -implicitDefEqProofs (disch := first | omega | (simp only [St.set_n, St.up_n, List.length_cons, List.length_nil]; omega)) only [go_sem, Nat.reduceAdd, Nat.reduceMul, Nat.reduceSub, Int.reduceAdd, Int.reduceMul, Int.reduceSub, Int.reduceNeg, Int.reduceToNat], by simp -implicitDefEqProofs (disch := first | omega | (simp only [St.set_n, St.up_n, List.length_cons, List.length_nil]; omega)) only [go_sem, Nat.reduceAdd, Nat.reduceMul, Nat.reduceSub, Int.reduceAdd, Int.reduceMul, Int.reduceSub, Int.reduceNeg, Int.reduceToNat], by simp -implicitDefEqProofs (disch := first | omega | (simp only [St.set_n, St.up_n, List.length_cons, List.length_nil]; omega)) only [go_sem, Nat.reduceAdd, Nat.reduceMul, Nat.reduceSub, Int.reduceAdd, Int.reduceMul, Int.reduceSub, Int.reduceNeg, Int.reduceToNat]; rfl, by simp -implicitDefEqProofs (disch := first | omega | (simp only [St.set_n, St.up_n, List.length_cons, List.length_nil]; omega)) only [go_sem, Nat.reduceAdd, Nat.reduceMul, Nat.reduceSub, Int.reduceAdd, Int.reduceMul, Int.reduceSub, Int.reduceNeg, Int.reduceToNat]⟩, rfl⟩
  · rintro m e s hws ⟨i, hmm, hi, ⟨q3, q11, q12, hd⟩, rfl⟩
    have hi4 : i = 0 ∨ i = 1 ∨ i = 2 ∨ i = 3 := by omega
    rcases hi4 with rfl | rfl | rfl | rfl
    · have e1 : ((0 : Nat) : Int) = 0 := rfl
      rw [e1] at q12
      simp -implicitDefEqProofs (disch := first | omega | (simp only [St.set_n, St.up_n, List.length_cons, List.length_nil]; omega)) only [go_sem, Nat.reduceAdd, Nat.reduceMul, Nat.reduceSub, Int.reduceAdd, Int.reduceMul, Int.reduceSub, Int.reduceNeg, Int.reduceToNat, q3, q11, q12]
      refine ⟨2, by omega, 1, rfl, by omega, ⟨by simp -implicitDefEqProofs (disch := first | omega | (simp only [St.set_n, St.up_n, List.length_cons, List.length_nil]; omega)) only [go_sem, Nat.reduceAdd, Nat.reduceMul, Nat.reduceSub, Int.reduceAdd, Int.reduceMul, Int.reduceSub, Int.reduceNeg, Int.reduceToNat]; rfl, by simp -implicitDefEqProofs (disch := first | omega | (simp only [St.set_n, St.up_n, List.length_cons, List.length_nil]; omega)) only [go_sem, Nat.reduceAdd, Nat.reduceMul, Nat.reduceSub, Int.reduceAdd, Int.reduceMul, Int.reduceSub, Int.reduceNeg, Int.reduceToNat, q11], by simp -implicitDefEqProofs (disch := first | omega | (simp only [St.set_n, St.up_n, List.length_cons, List.length_nil]; omega)) only [go_sem, Nat.reduceAdd, Nat.reduceMul, Nat.reduceSub, Int.reduceAdd, Int.reduceMul, Int.reduceSub, Int.reduceNeg, Int.reduceToNat]; rfl, by simp -implicitDefEqProofs (disch := first | omega | (simp only [St.set_n, St.up_n, List.length_cons, List.length_nil]; omega)) only [go_sem, Nat.reduceAdd, Nat.reduceMul, Nat.reduceSub, Int.reduceAdd, Int.reduceMul, Int.reduceSub, Int.reduceNeg, Int.reduceToNat, hd]⟩⟩
    · have e1 : ((1 : Nat) : Int) = 1 := rfl
      have e2 : (1 : Int).toNat = 1 := rfl
      rw [e1] at q12
      simp -implicitDefEqProofs (disch := first | omega | (simp only [St.set_n, St.up_n, List.length_cons, List.length_nil]; omega)) only [go_sem, Nat.reduceAdd, Nat.reduceMul, Nat.reduceSub, Int.reduceAdd, Int.reduceMul, Int.reduceSub, Int.reduceNeg, Int.reduceToNat, q3, q11, q12, e2]
      refine ⟨1, by omega, 2, rfl, by omega, ⟨by simp -implicitDefEqProofs (disch := first | omega | (simp only [St.set_n, St.up_n, List.length_cons, List.length_nil]; omega)) only [go_sem, Nat.reduceAdd, Nat.reduceMul, Nat.reduceSub, Int.reduceAdd, Int.reduceMul, Int.reduceSub, Int.reduceNeg, Int.reduceToNat]; rfl, by simp -implicitDefEqProofs (disch := first | omega | (simp only [St.set_n, St.up_n, List.length_cons, List.length_nil]; omega)) only [go_sem, Nat.reduceAdd, Nat.reduceMul, Nat.reduceSub, Int.reduceAdd, Int.reduceMul, Int.reduceSub, Int.reduceNeg, Int.reduceToNat, q11], by simp -implicitDefEqProofs (disch := first | omega | (simp only [St.set_n, St.up_n, List.length_cons, List.length_nil]; omega)) only [go_sem, Nat.reduceAdd, Nat.reduceMul, Nat.reduceSub, Int.reduceAdd, Int.reduceMul, Int.reduceSub, Int.reduceNeg, Int.reduceToNat]; rfl, by simp -implicitDefEqProofs (disch := first | omega | (simp only [St.set_n, St.up_n, List.length_cons, List.length_nil]; omega)) only [go_sem, Nat.reduceAdd, Nat.reduceMul, Nat.reduceSub, Int.reduceAdd, Int.reduceMul, Int.reduceSub, Int.reduceNeg, Int.reduceToNat, hd]⟩⟩
    · have e1 : ((2 : Nat) : Int) = 2 := rfl
      have e2 : (2 : Int).toNat = 2 := rfl
      rw [e1] at q12
      simp -implicitDefEqProofs (disch := first | omega | (simp only [St.set_n, St.up_n, List.length_cons, List.length_nil]; omega)) only [go_sem, Nat.reduceAdd, Nat.reduceMul, Nat.reduceSub, Int.reduceAdd, Int.reduceMul, Int.reduceSub, Int.reduceNeg, Int.reduceToNat, q3, q11, q12, e2]
      refine ⟨0, by omega, 3, rfl, by omega, ⟨by simp -implicitDefEqProofs (disch := first | omega | (simp only [St.set_n, St.up_n, List.length_cons, List.length_nil]; omega)) only [go_sem, Nat.reduceAdd, Nat.reduceMul, Nat.reduceSub, Int.reduceAdd, Int.reduceMul, Int.reduceSub, Int.reduceNeg, Int.reduceToNat]; rfl, by simp -implicitDefEqProofs (disch := first | omega | (simp only [St.set_n, St.up_n, List.length_cons, List.length_nil]; omega)) only [go_sem, Nat.reduceAdd, Nat.reduceMul, Nat.reduceSub, Int.reduceAdd, Int.reduceMul, Int.reduceSub, Int.reduceNeg, Int.reduceToNat, q11], by simp -implicitDefEqProofs (disch := first | omega | (simp only [St.set_n, St.up_n, List.length_cons, List.length_nil]; omega)) only [go_sem, Nat.reduceAdd, Nat.reduceMul, Nat.reduceSub, Int.reduceAdd, Int.reduceMul, Int.reduceSub, Int.reduceNeg, Int.reduceToNat]; rfl, by simp -implicitDefEqProofs (disch := first | omega | (simp only [St.set_n, St.up_n, List.length_cons, List.length_nil]; omega)) only [go_sem, Nat.reduceAdd, Nat.reduceMul, Nat.reduceSub, Int.reduceAdd, Int.reduceMul, Int.reduceSub, Int.reduceNeg, Int.reduceToNat, hd]⟩⟩
    · have e1 : ((3 : Nat) : Int) = 3 := rfl
      rw [e1] at q12
      simp -implicitDefEqProofs (disch := first | omega | (simp only [St.set_n, St.up_n, List.length_cons, List.length_nil]; omega)) only [go_sem, Nat.reduceAdd, Nat.reduceMul, Nat.reduceSub, Int.reduceAdd, Int.reduceMul, Int.reduceSub, Int.reduceNeg, Int.reduceToNat, q3, q11, q12, hd]
      exact O.close' hm hK
def ep0 : ES := { now := 0, pin := List.replicate 64 (-1), l0 := [], l1 := [], l2 := [] }
theorem pin0 (t : Int) : isPin ep0.pin t = false := by
  unfold isPin ep0
  simp only [List.length_replicate]
  by_cases h : 0 ≤ t ∧ t < 64
  · rw [List.getD_eq_getElem?_getD, List.getElem?_replicate, if_pos (by omega)]
    simp
  · rw [decide_eq_false (by omega)]; rfl
structure CorQ (c e g b : Nat) (l : Nat → Lk) (s : St) : Prop where
  core : ∃ v1 v3 v4 v5 v6 v7 w, s.m c = some (.raw (.cells #[.pointer (some ⟨e, 0, none⟩), v1, .pointer (some ⟨g, 0, none⟩), v3, v4, v5, v6, v7, w, .int .i64 0] 87 (0, 0)))
  ep : s.m e = some (.comp (EpR ep0 e))
  gr : s.m g = some (.raw (.cells #[.slice (some ⟨b, 0, none⟩) (12 : Nat) (12 : Nat)] 138 (0, 0)))
  lk : s.m b = some (.raw (.cells (flat fLk (lksA 12 l)).toArray 168 (0, 0)))
  z : ∀ i, (l i).1 = 0
variable {c e g b : Nat} {l : Nat → Lk}
theorem CorQ.up {s : St} (h : CorQ c e g b l s) {k : Nat} : CorQ c e g b l (s.up k) := ⟨h.core, h.ep, h.gr, h.lk, h.z⟩
structure QuF (c i : Nat) (e : Fr) : Prop where
  v0 : e.v 0 = .pointer (some ⟨c, 0, none⟩)
  v7 : e.v 7 = .int .i64 i
  d : e.d = []
structure QuG (c i : Nat) (e : Fr) : Prop where
  v0 : e.v 0 = .pointer (some ⟨c, 0, none⟩)
  v23 : e.v 23 = .int .i64 12
  v24 : e.v 24 = .int .i64 i
  d : e.d = []
structure QuE (c : Nat) (e : Fr) : Prop where
  v0 : e.v 0 = .pointer (some ⟨c, 0, none⟩)
  d : e.d = []
theorem quiet_of (h : CorQ c e g b l σ) (hK : ∀ k, σ.n ≤ k → K (.bool true) (σ.up k)) : Fn Tryz.prog B 16 #[.pointer (some ⟨c, 0, none⟩)] σ K := by
  obtain ⟨v1, v3, v4, v5, v6, v7, w, hc⟩ := h.core
  refine Fn.ofS is16 (by simp) fun hwf => ?_
  simp only [b16, Tryz.f16, Option.getD_some]
  refine SemS.seqw fun _ => ?_
  simp -implicitDefEqProofs (disch := first | omega | (simp only [St.set_n, St.up_n, List.length_cons, List.length_nil]; omega)) only [go_sem, Nat.reduceAdd, Nat.reduceMul, Nat.reduceSub, Int.reduceAdd, Int.reduceMul, Int.reduceSub, Int.reduceNeg, Int.reduceToNat]
  refine SemS.seqw fun _ => ?_
  simp -implicitDefEqProofs (disch := first | omega | (simp only [St.set_n, St.up_n, List.length_cons, List.length_nil]; omega)) only [go_sem, Nat.reduceAdd, Nat.reduceMul, Nat.reduceSub, Int.reduceAdd, Int.reduceMul, Int.reduceSub, Int.reduceNeg, Int.reduceToNat]
  refine SemS.seq (fun e' s => ∃ k, σ.n ≤ k ∧ s = σ.up k ∧ QuE c e') ?_ ?_
  · refine SemS.seqw fun _ => ?_
    simp -implicitDefEqProofs (disch := first | omega | (simp only [St.set_n, St.up_n, List.length_cons, List.length_nil]; omega)) only [go_sem, Nat.reduceAdd, Nat.reduceMul, Nat.reduceSub, Int.reduceAdd, Int.reduceMul, Int.reduceSub, Int.reduceNeg, Int.reduceToNat]
    refine SemS.block (SemS.loop (fun m e' s => ∃ (i k : Nat), m = 64 - i ∧ i ≤ 64 ∧ σ.n ≤ k ∧ s = σ.up k ∧ QuF c i e') 64 ?_ ?_)
    · exact ⟨0, σ.n, by omega, by omega, Nat.le_refl _, rfl, ⟨by simp -implicitDefEqProofs (disch := first | omega | (simp only [St.set_n, St.up_n, List.length_cons, List.length_nil]; omega)) only [go_sem, Nat.reduceAdd, Nat.reduceMul, Nat.reduceSub, Int.reduceAdd, Int.reduceMul, Int.reduceSub, Int.reduceNeg, Int.reduceToNat], by simp -implicitDefEqProofs (disch := first | omega | (simp only [St.set_n, St.up_n, List.length_cons, List.length_nil]; omega)) only [go_sem, Nat.reduceAdd, Nat.reduceMul, Nat.reduceSub, Int.reduceAdd, Int.reduceMul, Int.reduceSub, Int.reduceNeg, Int.reduceToNat]; rfl, by simp -implicitDefEqProofs (disch := first | omega | (simp only [St.set_n, St.up_n, List.length_cons, List.length_nil]; omega)) only [go_sem, Nat.reduceAdd, Nat.reduceMul, Nat.reduceSub, Int.reduceAdd, Int.reduceMul, Int.reduceSub, Int.reduceNeg, Int.reduceToNat]⟩⟩
    rintro m e' s hws ⟨i, k, hm, hi, hk, rfl, ⟨q0, q7, hd⟩⟩
    refine SemS.wp fun _ => ?_
    by_cases hlt : (i : Int) < 64
    · simp -implicitDefEqProofs (disch := first | omega | (simp only [St.set_n, St.up_n, List.length_cons, List.length_nil]; omega)) only [go_sem, Nat.reduceAdd, Nat.reduceMul, Nat.reduceSub, Int.reduceAdd, Int.reduceMul, Int.reduceSub, Int.reduceNeg, Int.reduceToNat, q0, q7, hlt, hc]
      refine callF_of (ep_pinned (S := ep0) (by simp -implicitDefEqProofs (disch := first | omega | (simp only [St.set_n, St.up_n, List.length_cons, List.length_nil]; omega)) only [go_sem, Nat.reduceAdd, Nat.reduceMul, Nat.reduceSub, Int.reduceAdd, Int.reduceMul, Int.reduceSub, Int.reduceNeg, Int.reduceToNat, h.ep]) fun k2 hk2 => ?_)
      rw [pin0]
      simp only [St.up_n] at hk2
      simp -implicitDefEqProofs (disch := first | omega | (simp only [St.set_n, St.up_n, List.length_cons, List.length_nil]; omega)) only [go_sem, Nat.reduceAdd, Nat.reduceMul, Nat.reduceSub, Int.reduceAdd, Int.reduceMul, Int.reduceSub, Int.reduceNeg, Int.reduceToNat, q0, q7, hlt, hc]
      exact ⟨64 - (i + 1), by omega, _, To.refl _ _, i + 1, k2, rfl, by omega, by omega, rfl, ⟨by simp -implicitDefEqProofs (disch := first | omega | (simp only [St.set_n, St.up_n, List.length_cons, List.length_nil]; omega)) only [go_sem, Nat.reduceAdd, Nat.reduceMul, Nat.reduceSub, Int.reduceAdd, Int.reduceMul, Int.reduceSub, Int.reduceNeg, Int.reduceToNat, q0], by simp -implicitDefEqProofs (disch := first | omega | (simp only [St.set_n, St.up_n, List.length_cons, List.length_nil]; omega)) only [go_sem, Nat.reduceAdd, Nat.reduceMul, Nat.reduceSub, Int.reduceAdd, Int.reduceMul, Int.reduceSub, Int.reduceNeg, Int.reduceToNat]; rfl, by simp -implicitDefEqProofs (disch := first | omega | (simp only [St.set_n, St.up_n, List.length_cons, List.length_nil]; omega)) only [go_sem, Nat.reduceAdd, Nat.reduceMul, Nat.reduceSub, Int.reduceAdd, Int.reduceMul, Int.reduceSub, Int.reduceNeg, Int.reduceToNat, hd]⟩⟩
    · simp -implicitDefEqProofs (disch := first | omega | (simp only [St.set_n, St.up_n, List.length_cons, List.length_nil]; omega)) only [go_sem, Nat.reduceAdd, Nat.reduceMul, Nat.reduceSub, Int.reduceAdd, Int.reduceMul, Int.reduceSub, Int.reduceNeg, Int.reduceToNat, q0, q7, hlt, hc]
      exact ⟨_, To.refl _ _, k, hk, rfl, ⟨by simp -implicitDefEqProofs (disch := first | omega | (simp only [St.set_n, St.up_n, List.length_cons, List.length_nil]; omega)) only [go_sem, Nat.reduceAdd, Nat.reduceMul, Nat.reduceSub, Int.reduceAdd, Int.reduceMul, Int.reduceSub, Int.reduceNeg, Int.reduceToNat, q0], by simp -implicitDefEqProofs (disch := first | omega | (simp only [St.set_n, St.up_n, List.length_cons, List.length_nil]; omega)) only [go_sem, Nat.reduceAdd, Nat.reduceMul, Nat.reduceSub, Int.reduceAdd, Int.reduceMul, Int.reduceSub, Int.reduceNeg, Int.reduceToNat, hd]⟩⟩
  · rintro e' s hws ⟨k, hk, rfl, ⟨q0, hd⟩⟩
    have hG : ∀ k, IsGroup (σ.up k) g b (lksA 12 l) := fun k => .inr ⟨by rw [lksA_len]; exact h.gr, h.lk⟩
    refine SemS.seq (fun e' s => ∃ k, σ.n ≤ k ∧ s = σ.up k ∧ e'.d = []) ?_ ?_
    · refine SemS.seqw fun _ => ?_
      simp -implicitDefEqProofs (disch := first | omega | (simp only [St.set_n, St.up_n, List.length_cons, List.length_nil]; omega)) only [go_sem, Nat.reduceAdd, Nat.reduceMul, Nat.reduceSub, Int.reduceAdd, Int.reduceMul, Int.reduceSub, Int.reduceNeg, Int.reduceToNat, q0, hc]
      refine callF_of (group_len (hG k) ?_)
      rw [lksA_len]
      simp -implicitDefEqProofs (disch := first | omega | (simp only [St.set_n, St.up_n, List.length_cons, List.length_nil]; omega)) only [go_sem, Nat.reduceAdd, Nat.reduceMul, Nat.reduceSub, Int.reduceAdd, Int.reduceMul, Int.reduceSub, Int.reduceNeg, Int.reduceToNat, q0]
      refine SemS.block (SemS.loop (fun m e' s => ∃ (i k : Nat), m = 12 - i ∧ i ≤ 12 ∧ σ.n ≤ k ∧ s = σ.up k ∧ QuG c i e') 12 ?_ ?_)
      · exact ⟨0, k, by omega, by omega, hk, rfl, ⟨by simp -implicitDefEqProofs (disch := first | omega | (simp only [St.set_n, St.up_n, List.length_cons, List.length_nil]; omega)) only [go_sem, Nat.reduceAdd, Nat.reduceMul, Nat.reduceSub, Int.reduceAdd, Int.reduceMul, Int.reduceSub, Int.reduceNeg, Int.reduceToNat, q0], by simp -implicitDefEqProofs (disch := first | omega | (simp only [St.set_n, St.up_n, List.length_cons, List.length_nil]; omega)) only [go_sem, Nat.reduceAdd, Nat.reduceMul, Nat.reduceSub, Int.reduceAdd, Int.reduceMul, Int.reduceSub, Int.reduceNeg, Int.reduceToNat]; rfl, by simp -implicitDefEqProofs (disch := first | omega | (simp only [St.set_n, St.up_n, List.length_cons, List.length_nil]; omega)) only [go_sem, Nat.reduceAdd, Nat.reduceMul, Nat.reduceSub, Int.reduceAdd, Int.reduceMul, Int.reduceSub, Int.reduceNeg, Int.reduceToNat]; rfl, by simp -implicitDefEqProofs (disch := first | omega | (simp only [St.set_n, St.up_n, List.length_cons, List.length_nil]; omega)) only [go_sem, Nat.reduceAdd, Nat.reduceMul, Nat.reduceSub, Int.reduceAdd, Int.reduceMul, Int.reduceSub, Int.reduceNeg, Int.reduceToNat, hd]⟩⟩
      rintro m e' s hws ⟨i, k, hm, hi, hk, rfl, ⟨q0, q23, q24, hd⟩⟩
      refine SemS.wp fun _ => ?_
      by_cases hlt : (i : Int) < 12
      · have hi12 : i < 12 := by omega
        obtain ⟨c0', _, _⟩ := lk_cells (lksA_get (l := l) hi12)
        rw [h.z i] at c0'
        have hlk := h.lk
        simp -implicitDefEqProofs (disch := first | omega | (simp only [St.set_n, St.up_n, List.length_cons, List.length_nil]; omega)) only [go_sem, Nat.reduceAdd, Nat.reduceMul, Nat.reduceSub, Int.reduceAdd, Int.reduceMul, Int.reduceSub, Int.reduceNeg, Int.reduceToNat, q0, q23, q24, hlt, hc]
        refine callF_of (group_at (hG k) (i := i) (by rw [lksA_len]; exact hi12) ?_)
        simp -implicitDefEqProofs (disch := first | omega | (simp only [St.set_n, St.up_n, List.length_cons, List.length_nil]; omega)) only [go_sem, Nat.reduceAdd, Nat.reduceMul, Nat.reduceSub, Int.reduceAdd, Int.reduceMul, Int.reduceSub, Int.reduceNeg, Int.reduceToNat, q0, q23, q24, hlt, hc]
        refine callF_of (lock_owner (x := 0) hlk c0' ?_)
        simp -implicitDefEqProofs (disch := first | omega | (simp only [St.set_n, St.up_n, List.length_cons, List.length_nil]; omega)) only [go_sem, Nat.reduceAdd, Nat.reduceMul, Nat.reduceSub, Int.reduceAdd, Int.reduceMul, Int.reduceSub, Int.reduceNeg, Int.reduceToNat, q0, q23, q24, hlt, hc]
        exact ⟨12 - (i + 1), by omega, _, To.refl _ _, i + 1, k, rfl, by omega, by omega, rfl, ⟨by simp -implicitDefEqProofs (disch := first | omega | (simp only [St.set_n, St.up_n, List.length_cons, List.length_nil]; omega)) only [go_sem, Nat.reduceAdd, Nat.reduceMul, Nat.reduceSub, Int.reduceAdd, Int.reduceMul, Int.reduceSub, Int.reduceNeg, Int.reduceToNat, q0], by simp -implicitDefEqProofs (disch := first | omega | (simp only [St.set_n, St.up_n, List.length_cons, List.length_nil]; omega)) only [go_sem, Nat.reduceAdd, Nat.reduceMul, Nat.reduceSub, Int.reduceAdd, Int.reduceMul, Int.reduceSub, Int.reduceNeg, Int.reduceToNat, q23], by simp -implicitDefEqProofs (disch := first | omega | (simp only [St.set_n, St.up_n, List.length_cons, List.length_nil]; omega)) only [go_sem, Nat.reduceAdd, Nat.reduceMul, Nat.reduceSub, Int.reduceAdd, Int.reduceMul, Int.reduceSub, Int.reduceNeg, Int.reduceToNat]; rfl, by simp -implicitDefEqProofs (disch := first | omega | (simp only [St.set_n, St.up_n, List.length_cons, List.length_nil]; omega)) only [go_sem, Nat.reduceAdd, Nat.reduceMul, Nat.reduceSub, Int.reduceAdd, Int.reduceMul, Int.reduceSub, Int.reduceNeg, Int.reduceToNat, hd]⟩⟩
      · simp -implicitDefEqProofs (disch := first | omega | (simp only [St.set_n, St.up_n, List.length_cons, List.length_nil]; omega)) only [go_sem, Nat.reduceAdd, Nat.reduceMul, Nat.reduceSub, Int.reduceAdd, Int.reduceMul, Int.reduceSub, Int.reduceNeg, Int.reduceToNat, q0, q23, q24, hlt]
        exact ⟨_, To.refl _ _, k, hk, rfl, by simp -implicitDefEqProofs (disch := first | omega | (simp only [St.set_n, St.up_n, List.length_cons, List.length_nil]; omega)) only [go_sem, Nat.reduceAdd, Nat.reduceMul, Nat.reduceSub, Int.reduceAdd, Int.reduceMul, Int.reduceSub, Int.reduceNeg, Int.reduceToNat, hd]⟩
    · rintro e' s hws ⟨k, hk, rfl, hd⟩
      refine SemS.wp fun _ => ?_
      simp -implicitDefEqProofs (disch := first | omega | (simp only [St.set_n, St.up_n, List.length_cons, List.length_nil]; omega)) only [go_sem, Nat.reduceAdd, Nat.reduceMul, Nat.reduceSub, Int.reduceAdd, Int.reduceMul, Int.reduceSub, Int.reduceNeg, Int.reduceToNat, hd]
      exact ⟨_, To.refl _ _, hK k hk⟩
theorem faults_of (h : CorQ c e g b l σ) (hK : K (.int .i64 0) σ) : Fn Tryz.prog B 17 #[.pointer (some ⟨c, 0, none⟩)] σ K := by
  obtain ⟨v1, v3, v4, v5, v6, v7, w, hc⟩ := h.core
  refine Fn.of is17 (by simp) fun hwf => ?_
  simp only [b17, Tryz.f17, Option.getD_some]
  simp -implicitDefEqProofs (disch := first | omega | (simp only [St.set_n, St.up_n, List.length_cons, List.length_nil]; omega)) only [go_sem, Nat.reduceAdd, Nat.reduceMul, Nat.reduceSub, Int.reduceAdd, Int.reduceMul, Int.reduceSub, Int.reduceNeg, Int.reduceToNat, hc]
  exact hK
theorem idle_of (h : CorQ c e g b l σ) (hK : ∀ k, σ.n ≤ k → K (.int .i64 0) (σ.up k)) : Fn Tryz.prog B 18 #[.pointer (some ⟨c, 0, none⟩)] σ K := by
  obtain ⟨v1, v3, v4, v5, v6, v7, w, hc⟩ := h.core
  refine Fn.of is18 (by simp) fun hwf => ?_
  simp only [b18, Tryz.f18, Option.getD_some]
  simp -implicitDefEqProofs (disch := first | omega | (simp only [St.set_n, St.up_n, List.length_cons, List.length_nil]; omega)) only [go_sem, Nat.reduceAdd, Nat.reduceMul, Nat.reduceSub, Int.reduceAdd, Int.reduceMul, Int.reduceSub, Int.reduceNeg, Int.reduceToNat]
  refine callF_of (quiet_of h fun k hk => ?_)
  simp -implicitDefEqProofs (disch := first | omega | (simp only [St.set_n, St.up_n, List.length_cons, List.length_nil]; omega)) only [go_sem, Nat.reduceAdd, Nat.reduceMul, Nat.reduceSub, Int.reduceAdd, Int.reduceMul, Int.reduceSub, Int.reduceNeg, Int.reduceToNat]
  refine loop_rule (fun m e' s => m = 3 ∧ s = σ.up k ∧ e'.v 0 = .pointer (some ⟨c, 0, none⟩) ∧ e'.v 6 = .int .i64 0 ∧ e'.d = []) 3 ?_ ?_
  · exact ⟨rfl, rfl, by simp -implicitDefEqProofs (disch := first | omega | (simp only [St.set_n, St.up_n, List.length_cons, List.length_nil]; omega)) only [go_sem, Nat.reduceAdd, Nat.reduceMul, Nat.reduceSub, Int.reduceAdd, Int.reduceMul, Int.reduceSub, Int.reduceNeg, Int.reduceToNat], by simp -implicitDefEqProofs (disch := first | omega | (simp only [St.set_n, St.up_n, List.length_cons, List.length_nil]; omega)) only [go_sem, Nat.reduceAdd, Nat.reduceMul, Nat.reduceSub, Int.reduceAdd, Int.reduceMul, Int.reduceSub, Int.reduceNeg, Int.reduceToNat], by simp -implicitDefEqProofs (disch := first | omega | (simp only [St.set_n, St.up_n, List.length_cons, List.length_nil]; omega)) only [go_sem, Nat.reduceAdd, Nat.reduceMul, Nat.reduceSub, Int.reduceAdd, Int.reduceMul, Int.reduceSub, Int.reduceNeg, Int.reduceToNat]⟩
  rintro m e' s hws ⟨rfl, rfl, q0, q6, hd⟩
  simp -implicitDefEqProofs (disch := first | omega | (simp only [St.set_n, St.up_n, List.length_cons, List.length_nil]; omega)) only [go_sem, Nat.reduceAdd, Nat.reduceMul, Nat.reduceSub, Int.reduceAdd, Int.reduceMul, Int.reduceSub, Int.reduceNeg, Int.reduceToNat, q0, q6, hc]
  refine callF_of (ep_waiting0 (S := ep0) (by simp -implicitDefEqProofs (disch := first | omega | (simp only [St.set_n, St.up_n, List.length_cons, List.length_nil]; omega)) only [go_sem, Nat.reduceAdd, Nat.reduceMul, Nat.reduceSub, Int.reduceAdd, Int.reduceMul, Int.reduceSub, Int.reduceNeg, Int.reduceToNat, h.ep]) rfl rfl rfl fun k2 hk2 => ?_)
  simp only [St.up_n] at hk2
  simp -implicitDefEqProofs (disch := first | omega | (simp only [St.set_n, St.up_n, List.length_cons, List.length_nil]; omega)) only [go_sem, Nat.reduceAdd, Nat.reduceMul, Nat.reduceSub, Int.reduceAdd, Int.reduceMul, Int.reduceSub, Int.reduceNeg, Int.reduceToNat, q0, q6, hc]
  refine callF_of (ep_waiting0 (S := ep0) (by simp -implicitDefEqProofs (disch := first | omega | (simp only [St.set_n, St.up_n, List.length_cons, List.length_nil]; omega)) only [go_sem, Nat.reduceAdd, Nat.reduceMul, Nat.reduceSub, Int.reduceAdd, Int.reduceMul, Int.reduceSub, Int.reduceNeg, Int.reduceToNat, h.ep]) rfl rfl rfl fun k3 hk3 => ?_)
  simp only [St.up_n] at hk3
  simp -implicitDefEqProofs (disch := first | omega | (simp only [St.set_n, St.up_n, List.length_cons, List.length_nil]; omega)) only [go_sem, Nat.reduceAdd, Nat.reduceMul, Nat.reduceSub, Int.reduceAdd, Int.reduceMul, Int.reduceSub, Int.reduceNeg, Int.reduceToNat, hd]
  exact hK _ (by omega)
end
end Go.Proofs.YtdbgeahmhfocaaaGreat

/- What is small: contracts, by walks. -/
namespace Go.Proofs.YtdbgeahmhfocaaaGreat
set_option pp.deepTerms false
set_option pp.deepTerms.threshold 8
set_option linter.unusedSimpArgs false
set_option linter.unusedVariables false
set_option maxRecDepth 100000
open Go Go.RowKit
def ROp (o : COp) (cs : List Value) : Prop := cs = fOp o
def ROps (B : World) (l : List COp) (cs : List Value) : Prop := ∃ v, cs = [v] ∧ SlR B 5 ROp l v
section
variable {B : World} {σ : St} {K : Value → St → Prop}
structure GrF (v : Value) (most : Int) (i : Nat) (e : Fr) : Prop where
  v0 : e.v 0 = v
  v1 : e.v 1 = .int .i64 most
  v5 : e.v 5 = .int .i64 i
  d : e.d = []
theorem great_of {l : List COp} {v : Value} {most : Int} (hl : SlR B 5 ROp l v) (hK : ∀ r : Bool, (r = false → (l.length : Int) ≤ most) → K (.bool r) σ) : Fn Tryz.prog B 22 #[v, .int .i64 most] σ K := by
  obtain ⟨a0, c0, ev, hlm⟩ : ∃ a c, v = .slice a l.length c ∧ l.length ≤ maxLen := by obtain ⟨a, c, e, h1, h2, _⟩ := hl; exact ⟨a, c, e, by omega⟩
  have hml : maxLen = 9223372036854775807 := by rfl
  refine Fn.of is22 (by simp) fun hwf => ?_
  simp only [b22, Tryz.f22, Option.getD_some]
  simp -implicitDefEqProofs (disch := first | omega | (simp only [St.set_n, St.up_n, List.length_cons, List.length_nil]; omega)) only [go_sem, Nat.reduceAdd, Nat.reduceMul, Nat.reduceSub, Int.reduceAdd, Int.reduceMul, Int.reduceSub, Int.reduceNeg, Int.reduceToNat]
  refine loop_rule (fun m e s => ∃ i : Nat, m = l.length - i ∧ i ≤ l.length ∧ GrF v most i e ∧ s = σ) l.length ?_ ?_
  · exact ⟨0, by omega, by omega, ⟨by simp -implicitDefEqProofs (disch := first | omega | (simp only [St.set_n, St.up_n, List.length_cons, List.length_nil]; omega)) only [go_sem, Nat.reduceAdd, Nat.reduceMul, Nat.reduceSub, Int.reduceAdd, Int.reduceMul, Int.reduceSub, Int.reduceNeg, Int.reduceToNat], by simp -implicitDefEqProofs (disch := first | omega | (simp only [St.set_n, St.up_n, List.length_cons, List.length_nil]; omega)) only [go_sem, Nat.reduceAdd, Nat.reduceMul, Nat.reduceSub, Int.reduceAdd, Int.reduceMul, Int.reduceSub, Int.reduceNeg, Int.reduceToNat], by first | (simp -implicitDefEqProofs (disch := first | omega | (simp only [St.set_n, St.up_n, List.length_cons, List.length_nil]; omega)) only [go_sem, Nat.reduceAdd, Nat.reduceMul, Nat.reduceSub, Int.reduceAdd, Int.reduceMul, Int.reduceSub, Int.reduceNeg, Int.reduceToNat]; done) | (simp -implicitDefEqProofs (disch := first | omega | (simp only [St.set_n, St.up_n, List.length_cons, List.length_nil]; omega)) only [go_sem, Nat.reduceAdd, Nat.reduceMul, Nat.reduceSub, Int.reduceAdd, Int.reduceMul, Int.reduceSub, Int.reduceNeg, Int.reduceToNat]; rfl), by simp -implicitDefEqProofs (disch := first | omega | (simp only [St.set_n, St.up_n, List.length_cons, List.length_nil]; omega)) only [go_sem, Nat.reduceAdd, Nat.reduceMul, Nat.reduceSub, Int.reduceAdd, Int.reduceMul, Int.reduceSub, Int.reduceNeg, Int.reduceToNat]⟩, rfl⟩
  rintro m e s hws ⟨i, hm, hi, ⟨q0, q1, q5, hd⟩, rfl⟩
  by_cases hlt : (i : Int) < l.length
  · obtain ⟨x, hx⟩ : ∃ x, l[i]? = some x := ⟨l[i]'(by omega), List.getElem?_eq_getElem (by omega)⟩
    obtain ⟨b, o, cap, cs, e1, hR, hr⟩ := hl.at hx
    simp only [ROp] at hR
    subst hR
    rw [e1] at q0
    obtain ⟨hb, hc⟩ := hr s hws
    have g2 := hc 2 (.string x.text) rfl
    have g3 := hc 3 (.string x.pay) rfl
    by_cases h1 : (100 : Int) < x.text.size
    · simp -implicitDefEqProofs (disch := first | omega | (simp only [St.set_n, St.up_n, List.length_cons, List.length_nil]; omega)) only [go_sem, Nat.reduceAdd, Nat.reduceMul, Nat.reduceSub, Int.reduceAdd, Int.reduceMul, Int.reduceSub, Int.reduceNeg, Int.reduceToNat, q0, q1, q5, hlt, g2, g3, h1, hd]
      exact hK true (fun h => by cases h)
    · by_cases h2 : (100 : Int) < x.pay.size
      · simp -implicitDefEqProofs (disch := first | omega | (simp only [St.set_n, St.up_n, List.length_cons, List.length_nil]; omega)) only [go_sem, Nat.reduceAdd, Nat.reduceMul, Nat.reduceSub, Int.reduceAdd, Int.reduceMul, Int.reduceSub, Int.reduceNeg, Int.reduceToNat, q0, q1, q5, hlt, g2, g3, h1, h2, hd]
        exact hK true (fun h => by cases h)
      · simp -implicitDefEqProofs (disch := first | omega | (simp only [St.set_n, St.up_n, List.length_cons, List.length_nil]; omega)) only [go_sem, Nat.reduceAdd, Nat.reduceMul, Nat.reduceSub, Int.reduceAdd, Int.reduceMul, Int.reduceSub, Int.reduceNeg, Int.reduceToNat, q0, q1, q5, hlt, g2, g3, h1, h2]
        exact ⟨l.length - (i + 1), by omega, i + 1, rfl, by omega, ⟨by first | (simp -implicitDefEqProofs (disch := first | omega | (simp only [St.set_n, St.up_n, List.length_cons, List.length_nil]; omega)) only [go_sem, Nat.reduceAdd, Nat.reduceMul, Nat.reduceSub, Int.reduceAdd, Int.reduceMul, Int.reduceSub, Int.reduceNeg, Int.reduceToNat, q0]; done) | (simp -implicitDefEqProofs (disch := first | omega | (simp only [St.set_n, St.up_n, List.length_cons, List.length_nil]; omega)) only [go_sem, Nat.reduceAdd, Nat.reduceMul, Nat.reduceSub, Int.reduceAdd, Int.reduceMul, Int.reduceSub, Int.reduceNeg, Int.reduceToNat, q0]; exact e1.symm), by simp -implicitDefEqProofs (disch := first | omega | (simp only [St.set_n, St.up_n, List.length_cons, List.length_nil]; omega)) only [go_sem, Nat.reduceAdd, Nat.reduceMul, Nat.reduceSub, Int.reduceAdd, Int.reduceMul, Int.reduceSub, Int.reduceNeg, Int.reduceToNat, q1], by simp -implicitDefEqProofs (disch := first | omega | (simp only [St.set_n, St.up_n, List.length_cons, List.length_nil]; omega)) only [go_sem, Nat.reduceAdd, Nat.reduceMul, Nat.reduceSub, Int.reduceAdd, Int.reduceMul, Int.reduceSub, Int.reduceNeg, Int.reduceToNat]; rfl, by simp -implicitDefEqProofs (disch := first | omega | (simp only [St.set_n, St.up_n, List.length_cons, List.length_nil]; omega)) only [go_sem, Nat.reduceAdd, Nat.reduceMul, Nat.reduceSub, Int.reduceAdd, Int.reduceMul, Int.reduceSub, Int.reduceNeg, Int.reduceToNat, hd]⟩⟩
  · rw [ev] at q0
    simp -implicitDefEqProofs (disch := first | omega | (simp only [St.set_n, St.up_n, List.length_cons, List.length_nil]; omega)) only [go_sem, Nat.reduceAdd, Nat.reduceMul, Nat.reduceSub, Int.reduceAdd, Int.reduceMul, Int.reduceSub, Int.reduceNeg, Int.reduceToNat, q0, q1, q5, hlt, hd]
    exact hK _ fun h => by have := of_decide_eq_false h; omega
structure ZmF (v : Value) (most n : Int) (i : Nat) (e : Fr) : Prop where
  v0 : e.v 0 = v
  v1 : e.v 1 = .int .i64 most
  v7 : e.v 7 = .int .i64 n
  v8 : e.v 8 = .int .i64 i
  d : e.d = []
def lens (th : List (List COp)) : Nat := (th.map List.length).foldr (· + ·) 0
theorem lens_take : ∀ {th : List (List COp)} {i : Nat} {l : List COp}, th[i]? = some l → lens (th.take (i + 1)) = lens (th.take i) + l.length
  | x :: th, 0, l, h => by
    simp only [List.getElem?_cons_zero, Option.some.injEq] at h
    subst h
    simp [lens]
  | x :: th, i + 1, l, h => by
    have := lens_take (th := th) (i := i) (l := l) (by simpa using h)
    simp only [lens, List.take_succ_cons, List.map_cons, List.foldr_cons] at this ⊢
    omega
  | [], i, l, h => by simp at h
set_option maxHeartbeats 1000000 in
theorem small_of {th : List (List COp)} {tv : Value} {picks : List Int} {pv : Value} {most : Int} (hm100 : most ≤ 100) (ht : SlR B 1 (ROps B) th tv) (hp : SlR B 1 RInt picks pv) (hK : ∀ r : Bool, (r = true → th.length ≤ 4 ∧ picks.length ≤ 4000 ∧ (lens th : Int) ≤ most) → K (.bool r) σ) :
    Fn Tryz.prog B 6 #[tv, .int .i64 most, pv] σ K := by
  obtain ⟨a0, c0, ev, _⟩ : ∃ a c, tv = .slice a th.length c ∧ True := by obtain ⟨a, c, e, _⟩ := ht; exact ⟨a, c, e, trivial⟩
  obtain ⟨a1, c1, rfl, _⟩ : ∃ a c, pv = .slice a picks.length c ∧ True := by obtain ⟨a, c, e, _⟩ := hp; exact ⟨a, c, e, trivial⟩
  refine Fn.of is6 (by simp) fun hwf => ?_
  simp only [b6, Tryz.f6, Option.getD_some]
  by_cases h4 : (4 : Int) < th.length
  · rw [ev]
    simp -implicitDefEqProofs (disch := first | omega | (simp only [St.set_n, St.up_n, List.length_cons, List.length_nil]; omega)) only [go_sem, Nat.reduceAdd, Nat.reduceMul, Nat.reduceSub, Int.reduceAdd, Int.reduceMul, Int.reduceSub, Int.reduceNeg, Int.reduceToNat, h4]
    exact hK false fun h => by cases h
  by_cases h5 : (4000 : Int) < picks.length
  · rw [ev]
    simp -implicitDefEqProofs (disch := first | omega | (simp only [St.set_n, St.up_n, List.length_cons, List.length_nil]; omega)) only [go_sem, Nat.reduceAdd, Nat.reduceMul, Nat.reduceSub, Int.reduceAdd, Int.reduceMul, Int.reduceSub, Int.reduceNeg, Int.reduceToNat, h4, h5]
    exact hK false fun h => by cases h
  have hs : bi Tryz.prog σ .len #[24] [tv] = some (.int .i64 th.length) := by rw [ev]; rfl
  simp -implicitDefEqProofs (disch := first | omega | (simp only [St.set_n, St.up_n, List.length_cons, List.length_nil]; omega)) only [go_sem, Nat.reduceAdd, Nat.reduceMul, Nat.reduceSub, Int.reduceAdd, Int.reduceMul, Int.reduceSub, Int.reduceNeg, Int.reduceToNat, h4, h5, hs]
  refine loop_rule (fun m e s => ∃ (i : Nat), m = th.length - i ∧ i ≤ th.length ∧ ZmF tv most (lens (th.take i)) i e ∧ s = σ ∧ (lens (th.take i) : Int) ≤ i * most) th.length ?_ ?_
  · exact ⟨0, by omega, by omega, ⟨by simp -implicitDefEqProofs (disch := first | omega | (simp only [St.set_n, St.up_n, List.length_cons, List.length_nil]; omega)) only [go_sem, Nat.reduceAdd, Nat.reduceMul, Nat.reduceSub, Int.reduceAdd, Int.reduceMul, Int.reduceSub, Int.reduceNeg, Int.reduceToNat], by simp -implicitDefEqProofs (disch := first | omega | (simp only [St.set_n, St.up_n, List.length_cons, List.length_nil]; omega)) only [go_sem, Nat.reduceAdd, Nat.reduceMul, Nat.reduceSub, Int.reduceAdd, Int.reduceMul, Int.reduceSub, Int.reduceNeg, Int.reduceToNat], by first | (simp -implicitDefEqProofs (disch := first | omega | (simp only [St.set_n, St.up_n, List.length_cons, List.length_nil]; omega)) only [go_sem, Nat.reduceAdd, Nat.reduceMul, Nat.reduceSub, Int.reduceAdd, Int.reduceMul, Int.reduceSub, Int.reduceNeg, Int.reduceToNat]; done) | (simp -implicitDefEqProofs (disch := first | omega | (simp only [St.set_n, St.up_n, List.length_cons, List.length_nil]; omega)) only [go_sem, Nat.reduceAdd, Nat.reduceMul, Nat.reduceSub, Int.reduceAdd, Int.reduceMul, Int.reduceSub, Int.reduceNeg, Int.reduceToNat]; rfl), by first | (simp -implicitDefEqProofs (disch := first | omega | (simp only [St.set_n, St.up_n, List.length_cons, List.length_nil]; omega)) only [go_sem, Nat.reduceAdd, Nat.reduceMul, Nat.reduceSub, Int.reduceAdd, Int.reduceMul, Int.reduceSub, Int.reduceNeg, Int.reduceToNat]; done) | (simp -implicitDefEqProofs (disch := first | omega | (simp only [St.set_n, St.up_n, List.length_cons, List.length_nil]; omega)) only [go_sem, Nat.reduceAdd, Nat.reduceMul, Nat.reduceSub, Int.reduceAdd, Int.reduceMul, Int.reduceSub, Int.reduceNeg, Int.reduceToNat]; rfl), by simp -implicitDefEqProofs (disch := first | omega | (simp only [St.set_n, St.up_n, List.length_cons, List.length_nil]; omega)) only [go_sem, Nat.reduceAdd, Nat.reduceMul, Nat.reduceSub, Int.reduceAdd, Int.reduceMul, Int.reduceSub, Int.reduceNeg, Int.reduceToNat]⟩, rfl, by simp [lens]⟩
  rintro m e s hws ⟨i, hm, hi, ⟨q0, q1, q7, q8, hd⟩, rfl, hle⟩
  by_cases hlt : (i : Int) < th.length
  · obtain ⟨l, hl⟩ : ∃ x, th[i]? = some x := ⟨th[i]'(by omega), List.getElem?_eq_getElem (by omega)⟩
    obtain ⟨b, o, cap, cs, e1, ⟨v', rfl, hv'⟩, hr⟩ := ht.at hl
    rw [e1] at q0
    obtain ⟨hb, hc⟩ := hr s hws
    have g0 := hc 0 v' rfl
    simp only [Nat.mul_one, Nat.add_zero] at g0
    have hv2 := hv'
    obtain ⟨a2, cap2, rfl, hlc, hcm, _⟩ := hv'
    have hb1 : (i : Int) * most ≤ 4 * 100 := by
      have h1 : (i : Int) * most ≤ i * 100 := Int.mul_le_mul_of_nonneg_left hm100 (by omega)
      omega
    simp -implicitDefEqProofs (disch := first | omega | (simp only [St.set_n, St.up_n, List.length_cons, List.length_nil]; omega)) only [go_sem, Nat.reduceAdd, Nat.reduceMul, Nat.reduceSub, Int.reduceAdd, Int.reduceMul, Int.reduceSub, Int.reduceNeg, Int.reduceToNat, q0, q1, q7, q8, hlt, g0]
    refine callF_of (great_of hv2 fun r hr' => ?_)
    cases r with
    | true =>
      simp -implicitDefEqProofs (disch := first | omega | (simp only [St.set_n, St.up_n, List.length_cons, List.length_nil]; omega)) only [go_sem, Nat.reduceAdd, Nat.reduceMul, Nat.reduceSub, Int.reduceAdd, Int.reduceMul, Int.reduceSub, Int.reduceNeg, Int.reduceToNat, hd]
      exact hK false fun h => by cases h
    | false =>
      have h6 := hr' rfl
      have h7 := lens_take hl
      simp -implicitDefEqProofs (disch := first | omega | (simp only [St.set_n, St.up_n, List.length_cons, List.length_nil]; omega)) only [go_sem, Nat.reduceAdd, Nat.reduceMul, Nat.reduceSub, Int.reduceAdd, Int.reduceMul, Int.reduceSub, Int.reduceNeg, Int.reduceToNat, q0, q1, q7, q8]
      refine ⟨th.length - (i + 1), by omega, i + 1, ⟨rfl, by omega, ⟨by first | (simp -implicitDefEqProofs (disch := first | omega | (simp only [St.set_n, St.up_n, List.length_cons, List.length_nil]; omega)) only [go_sem, Nat.reduceAdd, Nat.reduceMul, Nat.reduceSub, Int.reduceAdd, Int.reduceMul, Int.reduceSub, Int.reduceNeg, Int.reduceToNat, q0]; done) | (simp -implicitDefEqProofs (disch := first | omega | (simp only [St.set_n, St.up_n, List.length_cons, List.length_nil]; omega)) only [go_sem, Nat.reduceAdd, Nat.reduceMul, Nat.reduceSub, Int.reduceAdd, Int.reduceMul, Int.reduceSub, Int.reduceNeg, Int.reduceToNat, q0]; exact e1.symm), by simp -implicitDefEqProofs (disch := first | omega | (simp only [St.set_n, St.up_n, List.length_cons, List.length_nil]; omega)) only [go_sem, Nat.reduceAdd, Nat.reduceMul, Nat.reduceSub, Int.reduceAdd, Int.reduceMul, Int.reduceSub, Int.reduceNeg, Int.reduceToNat, q1], by first | (simp -implicitDefEqProofs (disch := first | omega | (simp only [St.set_n, St.up_n, List.length_cons, List.length_nil]; omega)) only [go_sem, Nat.reduceAdd, Nat.reduceMul, Nat.reduceSub, Int.reduceAdd, Int.reduceMul, Int.reduceSub, Int.reduceNeg, Int.reduceToNat, h7]; done) | (simp -implicitDefEqProofs (disch := first | omega | (simp only [St.set_n, St.up_n, List.length_cons, List.length_nil]; omega)) only [go_sem, Nat.reduceAdd, Nat.reduceMul, Nat.reduceSub, Int.reduceAdd, Int.reduceMul, Int.reduceSub, Int.reduceNeg, Int.reduceToNat, h7]; rfl), by simp -implicitDefEqProofs (disch := first | omega | (simp only [St.set_n, St.up_n, List.length_cons, List.length_nil]; omega)) only [go_sem, Nat.reduceAdd, Nat.reduceMul, Nat.reduceSub, Int.reduceAdd, Int.reduceMul, Int.reduceSub, Int.reduceNeg, Int.reduceToNat]; rfl, by simp -implicitDefEqProofs (disch := first | omega | (simp only [St.set_n, St.up_n, List.length_cons, List.length_nil]; omega)) only [go_sem, Nat.reduceAdd, Nat.reduceMul, Nat.reduceSub, Int.reduceAdd, Int.reduceMul, Int.reduceSub, Int.reduceNeg, Int.reduceToNat, hd]⟩, ?_⟩⟩
      have h8 : ((i + 1 : Nat) : Int) * most = i * most + most := by rw [Int.natCast_add, Int.add_mul]; omega
      rw [h7, h8]; omega
  · have hi' : i = th.length := by omega
    subst hi'
    rw [List.take_length] at q7
    rw [ev] at q0
    simp -implicitDefEqProofs (disch := first | omega | (simp only [St.set_n, St.up_n, List.length_cons, List.length_nil]; omega)) only [go_sem, Nat.reduceAdd, Nat.reduceMul, Nat.reduceSub, Int.reduceAdd, Int.reduceMul, Int.reduceSub, Int.reduceNeg, Int.reduceToNat, q0, q1, q7, q8, hlt, hd]
    exact hK _ fun h => ⟨by omega, by omega, of_decide_eq_true h⟩
end
end Go.Proofs.YtdbgeahmhfocaaaGreat

/- 'CorePolls': what its walk needs. -/
namespace Go.Proofs.YtdbgeahmhfocaaaGreat
set_option pp.deepTerms false
set_option pp.deepTerms.threshold 8
set_option linter.unusedSimpArgs false
set_option linter.unusedVariables false
set_option maxRecDepth 100000
open Go Go.RowKit
theorem fill1_put {n rm : Nat} {R : Nat → RgS} {w : Int} {m : Mg} (hD : ∀ j, j < n → 0 ≤ (R j).D ∧ (R j).D ≤ 1000) :
    fill1 n rm (xsOf n R) w m = xsOf n (if 1 ≤ w ∧ w ≤ n then updL R (w - 1).toNat (putR rm (R (w - 1).toNat) m) else R) := by
  unfold fill1
  by_cases h : 1 ≤ w ∧ w ≤ n
  · have hin : inR n w = true := by unfold inR; rw [decide_eq_true h]
    obtain ⟨k, rfl⟩ : ∃ k : Nat, w = (k : Int) + 1 := ⟨(w - 1).toNat, by omega⟩
    have e1 : ((k : Int) + 1 - 1).toNat = k := by omega
    have hk : k < n := by omega
    rw [hin, if_pos h, e1, xsOf_q hk, xsOf_d hk]
    have hd := hD k hk
    have hwr : IntKind.i64.wrap ((R k).D + 1) = (R k).D + 1 := wrap_i64 (by omega)
    have hq : (xsOf n R).q[k]? = some (R k).L := by simp [xsOf, hk]
    have hdx : (xsOf n R).d[k]? = some (R k).D := by simp [xsOf, hk]
    simp only [if_true]
    unfold xsOf at hq hdx ⊢
    rw [map_upd (g := fun r => r.L) hk, map_upd (g := fun r => r.D) hk]
    unfold putR
    by_cases hl : (R k).L.length < rm
    · rw [if_pos hl]
      simp only [if_pos hl]
      rw [set_same' hdx]
    · rw [if_neg hl]
      simp only [if_neg hl, hwr]
      rw [set_same' hq]
  · have hin : inR n w = false := by unfold inR; rw [decide_eq_false h]
    rw [hin, if_neg h]
    rfl
theorem xsOf_inj {n : Nat} {R : Nat → RgS} {X : XS} (h : xsOf n R = X) {k : Nat} (hk : k < n) : X.q[k]? = some (R k).L ∧ X.d[k]? = some (R k).D := by
  rw [← h]
  simp [xsOf, hk]
/-- What a block's type tells. -/
theorem neT {s : St} {b c : Nat} {c0 cs : Array Value} {ty ty' : TypeId} (hb : s.m b = some (.raw (.cells c0 ty' (0, 0)))) (hc : s.m c = some (.raw (.cells cs ty (0, 0)))) (hne : ty ≠ ty') : c ≠ b := fun e => by
  subst e
  rw [hb] at hc
  injection hc with hc; injection hc with hc; injection hc with _ hc _
  exact hne hc.symm
theorem Own.keepY {s s' : St} {ty : TypeId} {w n : Nat} {cs : List Value} {v : Value} (h : Own s ty w cs n v) (hk : ∀ c cs, s.m c = some (.raw (.cells cs ty (0, 0))) → s'.m c = some (.raw (.cells cs ty (0, 0)))) : Own s' ty w cs n v :=
  h.keep fun c x hc hx => by
    obtain ⟨c1, h1⟩ := h.typ hc
    rw [h1] at hx; cases hx
    exact hk c _ h1
theorem StOk.keepY {n : Nat} {s s' : St} {X : XS} {lv qv dv : Value} {ws : List Value} (h : StOk n s X lv qv dv ws) (hk : ∀ c cs ty, ty ≠ 149 → ty ≠ 151 → s.m c = some (.raw (.cells cs ty (0, 0))) → s'.m c = some (.raw (.cells cs ty (0, 0)))) : StOk n s' X lv qv dv ws :=
  ⟨h.ol.keepY fun c cs => hk c cs _ (by decide) (by decide), h.oq.keepY fun c cs => hk c cs _ (by decide) (by decide), h.od.keepY fun c cs => hk c cs _ (by decide) (by decide), h.lw, h.lq, h.ld, fun i w q h1 h2 => (h.hw i w q h1 h2).keepY fun c cs => hk c cs _ (by decide) (by decide), h.sm, h.dd⟩
theorem CoreI.keepB {q : CB} {nr rn bf : Nat} {R : Nat → RgS} {s s' : St} {rr rb : Nat → Nat} {w : Value} {c0 : Array Value} (h : CoreI q nr rn R rr rb w s) (hb : s.m bf = some (.raw (.cells c0 37 (0, 0)))) (hk : ∀ c y, c ≠ bf → s.m c = some y → s'.m c = some y) : CoreI q nr rn R rr rb w s' := by
  obtain ⟨p, ro, a0, a1, a2, a3, hc⟩ := h.core
  exact ⟨⟨p, ro, a0, a1, a2, a3, hk _ _ (ne_of hc hb (by simp)) hc⟩, hk _ _ (ne_of h.ep hb (by simp)) h.ep, hk _ _ (ne_of h.gr hb (by simp)) h.gr, hk _ _ (ne_of h.lk hb (by simp)) h.lk, h.le, h.lb, h.own.keepT fun c cs hx => hk _ _ (neT hb hx (by decide)) hx,
    fun j hj => ⟨(h.ring j hj).ne, (h.ring j hj).pos, (h.ring j hj).big, (h.ring j hj).full, (h.ring j hj).low, hk _ _ (neT hb (h.ring j hj).root (by decide)) (h.ring j hj).root, hk _ _ (neT hb (h.ring j hj).row (by decide)) (h.ring j hj).row⟩, h.ord, h.hb⟩
theorem CoreI.offs {q : CB} {nr rn : Nat} {R : Nat → RgS} {s : St} {rr rb : Nat → Nat} {w : Value} (h : CoreI q nr rn R rr rb w s) {c : Nat} {cs : Array Value} {ty : TypeId} (hc : s.m c = some (.raw (.cells cs ty (0, 0)))) (h1 : ty ≠ 149) (h2 : ty ≠ 151) : ∀ j, j < nr → c ≠ rr j ∧ c ≠ rb j :=
  fun j hj => ⟨neT (h.ring j hj).root hc h1, neT (h.ring j hj).row hc h2⟩
def cop (o : COp) : COp := ⟨if o.kind = 5 then 5 else 4, o.sub, ⟨#[]⟩, ⟨#[]⟩, false⟩
theorem cop_kind (o : COp) : (cop o).kind = 4 ∨ (cop o).kind = 5 := by unfold cop; simp only; split <;> simp
section
variable {B : World}
theorem opsV_own {L : Lg B} {s0 s : St} {ops : List COp} {v : Value} (ho : Own s 48 5 (flat fOp ops) ops.length v) (hb : ∀ b, blk v = some b → s0.n ≤ b) : OpsV L (grow noH s0 s) v ops := by
  obtain ⟨A, c, rfl, hc⟩ := ho.is
  refine ⟨A, c, rfl, hc, fun hne => ?_⟩
  have hl : 0 < ops.length := List.length_pos_iff.2 hne
  obtain ⟨b, c1, sp, e1, hc1, m1, _, _⟩ := ho.has hl
  cases e1
  refine ⟨b, 0, _, 48, rfl, fun G u s' he => he.sub _ _ (gro (hb b rfl) m1), fun j op hj k v hv => ?_⟩
  rw [Nat.zero_add, List.getElem?_toArray]
  exact flat_get fOp_len ops sp j op k v hj hv
end
structure PlF (subs cap : Int) (vw vm tv pv : Value) (c bf i : Nat) (e : Fr) : Prop where
  v0 : e.v 0 = .int .i64 subs
  v1 : e.v 1 = .int .i64 cap
  v2 : e.v 2 = vw
  v3 : e.v 3 = vm
  v4 : e.v 4 = tv
  v5 : e.v 5 = pv
  v13 : e.v 13 = .pointer (some ⟨c, 0, none⟩)
  v14 : e.v 14 = .pointer (some ⟨bf, 0, none⟩)
  v15 : e.v 15 = .int .i64 i
  d : e.d = []
structure PlS (nr rn : Nat) (W : List Int) (M : List Mg) (q : CB) (rr rb : Nat → Nat) (w : Value) (R : Nat → RgS) (bf i : Nat) (s : St) : Prop where
  core : CoreI q nr rn R rr rb w s
  st : ∃ Al Cl Aq Cq Ad Cd ws, s.m bf = some (.raw (.cells #[.slice Al nr Cl, .int .i64 rn, .slice Aq nr Cq, .slice Ad nr Cd, .slice none 0 0, .slice none 0 0, .slice none 0 0, .int .i64 0] 37 (0, 0))) ∧ StOk nr s (fillX nr rn W M i) (.slice Al nr Cl) (.slice Aq nr Cq) (.slice Ad nr Cd) ws
  x : xsOf nr R = fillX nr rn W M i
  G : ∀ j, (R j).G = 0
  rl : ∀ j, j < nr → (R j).L.length ≤ rn
  sm : ∀ j m, j < i → M[j]? = some m → SmM m
theorem LgI.inv_app {B : World} {L : Lg B} {k : Nat} {P : Nat → Prop} {x : L.U × (Nat → List L.A)} {vs : List Value} {w w' : Value} {s2 s' : St} (hI : LgI L k (fun c => P c ∨ blk w = some c) x vs s2) (hw : s2.wf B) (heq : ∀ c, c < s2.n → blk w ≠ some c → s'.m c = s2.m c)
    (hb : ∀ b, blk w' = some b → s2.n ≤ b ∨ blk w = some b) (hn : s2.n ≤ s'.n) (hlt : ∀ b, blk w' = some b → b < s'.n) : LgI L k (fun c => P c ∨ blk w' = some c) x vs s' := by
  have hI2 := hI.stable (s' := s2.up s'.n) (fun c y _ hx => hx) hn
  have hno : ∀ c, s2.n ≤ c → s2.m c = none := fun c hc => by
    cases hx : s2.m c with
    | none => rfl
    | some y => have := (hw.2 _ _ hx).2; omega
  cases e : blk w' with
  | none =>
    refine LgI.weak (hI2.stable (s' := s') (fun c y hc hx => ?_) (Nat.le_refl _)) fun c hc => hc.elim .inl fun h => (by cases h)
    have hx' : s2.m c = some y := hx
    rw [heq c (hw.2 _ _ hx').2 fun e => hc (.inr e)]; exact hx'
  | some b' =>
    rcases hb b' e with h | h
    · have h3 := hI2.fresh (q := b') (hno b' h) (hlt b' e)
      refine LgI.weak (h3.stable (s' := s') (fun c y hc hx => ?_) (Nat.le_refl _)) fun c hc => hc.elim (fun h => .inl (.inl h)) fun h => .inr (Option.some.inj h).symm
      have hx' : s2.m c = some y := hx
      rw [heq c (hw.2 _ _ hx').2 fun e => hc (.inl (.inr e))]; exact hx'
    · refine LgI.weak (hI2.stable (s' := s') (fun c y hc hx => ?_) (Nat.le_refl _)) fun c hc => hc.elim .inl fun h' => .inr (h.trans h')
      have hx' : s2.m c = some y := hx
      rw [heq c (hw.2 _ _ hx').2 fun e => hc (.inr e)]; exact hx'
def pTs (TH : List (List COp)) (j : Nat) : Nat → List CA := fun t => if t < j then ((TH.getD t []).map cop).map .bg else []
theorem pTs_succ {TH : List (List COp)} {j : Nat} {l : List COp} (h : TH[j]? = some l) : updL (pTs TH j) j ((l.map cop).map .bg) = pTs TH (j + 1) := by
  funext t
  unfold pTs updL
  by_cases e : t = j
  · subst e
    rw [if_pos rfl, if_pos (by omega), List.getD_eq_getElem?_getD, h]
    rfl
  · simp only [if_neg e]
    by_cases h : t < j
    · rw [if_pos h, if_pos (by omega)]
    · rw [if_neg h, if_neg (by omega)]
theorem sum_lens {TH : List (List COp)} : ∀ k, k ≤ TH.length → sumN (fun t => ((TH.getD t []).map cop).length) k = lens (TH.take k)
  | 0, _ => rfl
  | k + 1, h => by
    have hk : TH[k]? = some (TH[k]'(by omega)) := List.getElem?_eq_getElem (by omega)
    rw [sumN, sum_lens k (by omega), lens_take hk, List.getD_eq_getElem?_getD, hk]
    simp
/-- What the world has, by its types. -/
theorem coH_off {q : CB} {lp nr rn rn' : Nat} {rr rb : Nat → Nat} {R : Nat → RgS} {w : Value} {s : St} (h : CoreI q nr rn R rr rb w s) (hl : ∃ L, s.m lp = some (.comp L)) (hd : CoD q lp nr rr rb) {u : CU} {c : Nat} {cs : Array Value} {ty : TypeId} (hc : s.m c = some (.raw (.cells cs ty (0, 0))))
    (t1 : ty ≠ 168) (t2 : ty ≠ 149) (t3 : ty ≠ 151) (t4 : ty ≠ 87) (t5 : ty ≠ 138) (t6 : ty ≠ 100) : coH q lp nr rn' rr rb (coF q w s) u c = none := by
  obtain ⟨L, hl⟩ := hl
  cases hx : coH q lp nr rn' rr rb (coF q w s) u c with
  | none => rfl
  | some y =>
    exfalso
    rcases coH_cases hd hx with rfl | rfl | ⟨i, hi, rfl⟩ | ⟨i, hi, rfl⟩ | ⟨hF, _⟩
    · exact neT h.lk hc t1 rfl
    · rw [hl] at hc; cases hc
    · exact neT (h.ring i hi).root hc t2 rfl
    · exact neT (h.ring i hi).row hc t3 rfl
    · unfold coF at hF
      split at hF
      · rename_i hcc
        rcases hcc with rfl | rfl | rfl | hb
        · obtain ⟨p, ro, a0, a1, a2, a3, hq⟩ := h.core
          exact neT hq hc t4 rfl
        · exact neT h.gr hc t5 rfl
        · rw [h.ep] at hc; cases hc
        · obtain ⟨c1, h1⟩ := h.own.typ hb
          exact neT h1 hc t6 rfl
      · cases hF
structure PlG (tv pv : Value) (c bf lp : Nat) (A : Option Addr) (j k : Nat) (e : Fr) : Prop where
  v4 : e.v 4 = tv
  v5 : e.v 5 = pv
  v13 : e.v 13 = .pointer (some ⟨c, 0, none⟩)
  v14 : e.v 14 = .pointer (some ⟨bf, 0, none⟩)
  v18 : e.v 18 = .pointer (some ⟨lp, 0, none⟩)
  v19 : e.v 19 = .slice A j k
  v20 : e.v 20 = .int .i64 j
  d : e.d = []
structure PlT {B : World} (L : Lg B) (u : L.U) (Ts : Nat → List L.A) (G0 : Nat → Prop) (s2 : St) (A : Option Addr) (j k : Nat) (s : St) : Prop where
  i : ∃ vs, LgI L j (fun c => G0 c ∨ blk (.slice A j k) = some c) (u, Ts) vs s ∧ Own s 50 1 vs j (.slice A j k)
  keep : ∀ c y, G0 c → s2.m c = some y → s.m c = some y
  n : s2.n ≤ s.n
  hb : ∀ b, blk (.slice A j k) = some b → s2.n ≤ b
structure PlI (Al : Option Addr) (i cl : Nat) (e : Fr) : Prop where
  v21 : e.v 21 = .slice Al i cl
  v22 : e.v 22 = .int .i64 i
structure PlO (L : List COp) (sb : St) (Al : Option Addr) (i cl : Nat) (s : St) : Prop where
  o : Own s 48 5 (flat fOp ((L.take i).map cop)) i (.slice Al i cl)
  m : ∀ c, c < sb.n → s.m c = sb.m c
  n : sb.n ≤ s.n
  hb : ∀ b, blk (.slice Al i cl) = some b → sb.n ≤ b
end Go.Proofs.YtdbgeahmhfocaaaGreat

/- 'CorePolls': the walk. -/
namespace Go.Proofs.YtdbgeahmhfocaaaGreat
set_option pp.deepTerms false
set_option pp.deepTerms.threshold 8
set_option linter.unusedSimpArgs false
set_option linter.unusedVariables false
set_option maxRecDepth 100000
open Go Go.RowKit
section
variable {B : World} {σ : St} {K : Value → St → Prop}
set_option maxHeartbeats 8000000 in
theorem pol22 {subs cap : Int} {W : List Int} {M : List Mg} {TH : List (List COp)} {picks : List Int} {vw vm tv pv : Value} (hW : SlR B 1 RInt W vw) (hM : SlR B 3 RMg M vm) (hT : SlR B 1 (ROps B) TH tv) (hp : SlR B 1 RInt picks pv)
    (hK : ∀ τ, K (.bool true) τ) : Fn Tryz.prog B 3 #[.int .i64 subs, .int .i64 cap, vw, vm, tv, pv] σ K := by
  have h8 : coreN subs ≤ 8 := by unfold coreN; omega
  have hr16 : 1 ≤ roomN cap ∧ roomN cap ≤ 16 := by unfold roomN; omega
  obtain ⟨aw, cw, evw, hcw0⟩ : ∃ a c, vw = .slice a W.length c ∧ W.length ≤ c := by obtain ⟨a, c, e, h, _⟩ := hW; exact ⟨a, c, e, h⟩
  obtain ⟨am, cm, evm, hcm0⟩ : ∃ a c, vm = .slice a M.length c ∧ M.length ≤ c := by obtain ⟨a, c, e, h, _⟩ := hM; exact ⟨a, c, e, h⟩
  obtain ⟨at_, ct, evt⟩ : ∃ a c, tv = .slice a TH.length c := by obtain ⟨a, c, e, _⟩ := hT; exact ⟨a, c, e⟩
  refine Fn.ofS is3 (by simp) fun hwf => ?_
  have hB := hwf.1
  simp only [b3, Tryz.f3, Option.getD_some]
  refine SemS.seqw fun _ => ?_
  simp -implicitDefEqProofs (disch := first | omega | (simp only [St.set_n, St.up_n, List.length_cons, List.length_nil]; omega)) only [go_sem, Nat.reduceAdd, Nat.reduceMul, Nat.reduceSub, Int.reduceAdd, Int.reduceMul, Int.reduceSub, Int.reduceNeg, Int.reduceToNat]
  refine SemS.seqw fun _ => ?_
  simp -implicitDefEqProofs (disch := first | omega | (simp only [St.set_n, St.up_n, List.length_cons, List.length_nil]; omega)) only [go_sem, Nat.reduceAdd, Nat.reduceMul, Nat.reduceSub, Int.reduceAdd, Int.reduceMul, Int.reduceSub, Int.reduceNeg, Int.reduceToNat]
  refine callF_of (awake22 fun k1 hk1 => ?_)
  simp -implicitDefEqProofs (disch := first | omega | (simp only [St.set_n, St.up_n, List.length_cons, List.length_nil]; omega)) only [go_sem, Nat.reduceAdd, Nat.reduceMul, Nat.reduceSub, Int.reduceAdd, Int.reduceMul, Int.reduceSub, Int.reduceNeg, Int.reduceToNat]
  refine SemS.seqw fun hwa => ?_
  simp -implicitDefEqProofs (disch := first | omega | (simp only [St.set_n, St.up_n, List.length_cons, List.length_nil]; omega)) only [go_sem, Nat.reduceAdd, Nat.reduceMul, Nat.reduceSub, Int.reduceAdd, Int.reduceMul, Int.reduceSub, Int.reduceNeg, Int.reduceToNat]
  refine callF_wf (small_of (by omega) hT hp fun r hr hws1 => ?_)
  cases r with
  | false =>
    simp -implicitDefEqProofs (disch := first | omega | (simp only [St.set_n, St.up_n, List.length_cons, List.length_nil]; omega)) only [go_sem, Nat.reduceAdd, Nat.reduceMul, Nat.reduceSub, Int.reduceAdd, Int.reduceMul, Int.reduceSub, Int.reduceNeg, Int.reduceToNat]
    exact ⟨_, To.refl _ _, hK _⟩
  | true =>
  obtain ⟨hn4, hp4000, hl10⟩ := hr rfl
  subst evw evm
  by_cases hm100 : (100 : Int) < M.length
  · simp -implicitDefEqProofs (disch := first | omega | (simp only [St.set_n, St.up_n, List.length_cons, List.length_nil]; omega)) only [go_sem, Nat.reduceAdd, Nat.reduceMul, Nat.reduceSub, Int.reduceAdd, Int.reduceMul, Int.reduceSub, Int.reduceNeg, Int.reduceToNat, hm100]
    exact ⟨_, To.refl _ _, hK _⟩
  by_cases hlen : (W.length : Int) = M.length
  case neg =>
    simp -implicitDefEqProofs (disch := first | omega | (simp only [St.set_n, St.up_n, List.length_cons, List.length_nil]; omega)) only [go_sem, Nat.reduceAdd, Nat.reduceMul, Nat.reduceSub, Int.reduceAdd, Int.reduceMul, Int.reduceSub, Int.reduceNeg, Int.reduceToNat, hm100, hlen]
    exact ⟨_, To.refl _ _, hK _⟩
  simp -implicitDefEqProofs (disch := first | omega | (simp only [St.set_n, St.up_n, List.length_cons, List.length_nil]; omega)) only [go_sem, Nat.reduceAdd, Nat.reduceMul, Nat.reduceSub, Int.reduceAdd, Int.reduceMul, Int.reduceSub, Int.reduceNeg, Int.reduceToNat, hm100, hlen]
  have hlen' : W.length = M.length := by omega
  refine SemS.seqw fun _ => ?_
  simp -implicitDefEqProofs (disch := first | omega | (simp only [St.set_n, St.up_n, List.length_cons, List.length_nil]; omega)) only [go_sem, Nat.reduceAdd, Nat.reduceMul, Nat.reduceSub, Int.reduceAdd, Int.reduceMul, Int.reduceSub, Int.reduceNeg, Int.reduceToNat]
  refine callF_wf (core_new fun q rr rb w τ hNew hwτ _ => ?_)
  have hC0 := hNew.coreI
  simp -implicitDefEqProofs (disch := first | omega | (simp only [St.set_n, St.up_n, List.length_cons, List.length_nil]; omega)) only [go_sem, Nat.reduceAdd, Nat.reduceMul, Nat.reduceSub, Int.reduceAdd, Int.reduceMul, Int.reduceSub, Int.reduceNeg, Int.reduceToNat]
  refine SemS.seqw fun _ => ?_
  simp -implicitDefEqProofs (disch := first | omega | (simp only [St.set_n, St.up_n, List.length_cons, List.length_nil]; omega)) only [go_sem, Nat.reduceAdd, Nat.reduceMul, Nat.reduceSub, Int.reduceAdd, Int.reduceMul, Int.reduceSub, Int.reduceNeg, Int.reduceToNat]
  refine callF_wf (fill_of (W := []) (M := []) slR_nil ⟨none, 0, rfl, Nat.le_refl _, Nat.zero_le _, fun _ => rfl, fun i x h => by simp at h⟩ rfl (by simp) (by simp) fun lv qv dv ws s1 hS1 hn1 hk1 hw1 _ => ?_)
  obtain ⟨Al, Cl, rfl, _⟩ := hS1.ol.is
  obtain ⟨Aq, Cq, rfl, _⟩ := hS1.oq.is
  obtain ⟨Ad, Cd, rfl, _⟩ := hS1.od.is
  unfold stV
  simp -implicitDefEqProofs (disch := first | omega | (simp only [St.set_n, St.up_n, List.length_cons, List.length_nil]; omega)) only [go_sem, Nat.reduceAdd, Nat.reduceMul, Nat.reduceSub, Int.reduceAdd, Int.reduceMul, Int.reduceSub, Int.reduceNeg, Int.reduceToNat]
  have hF0 : PlS (coreN subs) (roomN cap) W M q rr rb w (fun _ => ⟨[], 0, 0⟩) s1.n 0 ((s1.set s1.n (.raw (.cells #[.slice Al (coreN subs) Cl, .int .i64 (roomN cap), .slice Aq (coreN subs) Cq, .slice Ad (coreN subs) Cd, .slice none 0 0, .slice none 0 0, .slice none 0 0, .int .i64 0] 37 (0, 0)))).up (s1.n + 1)) := by
    refine ⟨(hC0.keep hk1).keep fun c y hx => ?_, ⟨Al, Cl, Aq, Cq, Ad, Cd, ws, by simp -implicitDefEqProofs (disch := first | omega | (simp only [St.set_n, St.up_n, List.length_cons, List.length_nil]; omega)) only [go_sem, Nat.reduceAdd, Nat.reduceMul, Nat.reduceSub, Int.reduceAdd, Int.reduceMul, Int.reduceSub, Int.reduceNeg, Int.reduceToNat], hS1.keep fun c o ho => ?_⟩, ?_, fun _ => rfl, fun _ _ => Nat.zero_le _, fun j m hj => by omega⟩
    · have := (hw1.2 _ _ hx).2
      simp -implicitDefEqProofs (disch := first | omega | (simp only [St.set_n, St.up_n, List.length_cons, List.length_nil]; omega)) only [go_sem, Nat.reduceAdd, Nat.reduceMul, Nat.reduceSub, Int.reduceAdd, Int.reduceMul, Int.reduceSub, Int.reduceNeg, Int.reduceToNat, hx]
    · have := (hw1.2 _ _ ho).2
      simp -implicitDefEqProofs (disch := first | omega | (simp only [St.set_n, St.up_n, List.length_cons, List.length_nil]; omega)) only [go_sem, Nat.reduceAdd, Nat.reduceMul, Nat.reduceSub, Int.reduceAdd, Int.reduceMul, Int.reduceSub, Int.reduceNeg, Int.reduceToNat, ho]
    · simp [xsOf, fillX, X0, List.map_const']
  have hwf0 := set_wf1 (y := .raw (.cells #[.slice Al (coreN subs) Cl, .int .i64 (roomN cap), .slice Aq (coreN subs) Cq, .slice Ad (coreN subs) Cd, .slice none 0 0, .slice none 0 0, .slice none 0 0, .int .i64 0] 37 (0, 0))) hw1
  generalize (s1.set s1.n (.raw (.cells #[.slice Al (coreN subs) Cl, .int .i64 (roomN cap), .slice Aq (coreN subs) Cq, .slice Ad (coreN subs) Cd, .slice none 0 0, .slice none 0 0, .slice none 0 0, .int .i64 0] 37 (0, 0)))).up (s1.n + 1) = s2 at hF0 hwf0 ⊢
  refine SemS.seq (fun e s => ∃ R, PlF subs cap (.slice aw W.length cw) (.slice am M.length cm) tv pv q.c s1.n M.length e ∧ PlS (coreN subs) (roomN cap) W M q rr rb w R s1.n M.length s) ?_ ?_
  · refine SemS.seqw fun _ => ?_
    simp -implicitDefEqProofs (disch := first | omega | (simp only [St.set_n, St.up_n, List.length_cons, List.length_nil]; omega)) only [go_sem, Nat.reduceAdd, Nat.reduceMul, Nat.reduceSub, Int.reduceAdd, Int.reduceMul, Int.reduceSub, Int.reduceNeg, Int.reduceToNat]
    refine SemS.block (SemS.loop (fun m e s => ∃ (i : Nat) (R : Nat → RgS), m = M.length - i ∧ i ≤ M.length ∧ PlF subs cap (.slice aw W.length cw) (.slice am M.length cm) tv pv q.c s1.n i e ∧ PlS (coreN subs) (roomN cap) W M q rr rb w R s1.n i s) M.length ?_ ?_)
    · exact ⟨0, _, by omega, by omega, ⟨by simp -implicitDefEqProofs (disch := first | omega | (simp only [St.set_n, St.up_n, List.length_cons, List.length_nil]; omega)) only [go_sem, Nat.reduceAdd, Nat.reduceMul, Nat.reduceSub, Int.reduceAdd, Int.reduceMul, Int.reduceSub, Int.reduceNeg, Int.reduceToNat], by simp -implicitDefEqProofs (disch := first | omega | (simp only [St.set_n, St.up_n, List.length_cons, List.length_nil]; omega)) only [go_sem, Nat.reduceAdd, Nat.reduceMul, Nat.reduceSub, Int.reduceAdd, Int.reduceMul, Int.reduceSub, Int.reduceNeg, Int.reduceToNat], by simp -implicitDefEqProofs (disch := first | omega | (simp only [St.set_n, St.up_n, List.length_cons, List.length_nil]; omega)) only [go_sem, Nat.reduceAdd, Nat.reduceMul, Nat.reduceSub, Int.reduceAdd, Int.reduceMul, Int.reduceSub, Int.reduceNeg, Int.reduceToNat], by simp -implicitDefEqProofs (disch := first | omega | (simp only [St.set_n, St.up_n, List.length_cons, List.length_nil]; omega)) only [go_sem, Nat.reduceAdd, Nat.reduceMul, Nat.reduceSub, Int.reduceAdd, Int.reduceMul, Int.reduceSub, Int.reduceNeg, Int.reduceToNat], by simp -implicitDefEqProofs (disch := first | omega | (simp only [St.set_n, St.up_n, List.length_cons, List.length_nil]; omega)) only [go_sem, Nat.reduceAdd, Nat.reduceMul, Nat.reduceSub, Int.reduceAdd, Int.reduceMul, Int.reduceSub, Int.reduceNeg, Int.reduceToNat], by simp -implicitDefEqProofs (disch := first | omega | (simp only [St.set_n, St.up_n, List.length_cons, List.length_nil]; omega)) only [go_sem, Nat.reduceAdd, Nat.reduceMul, Nat.reduceSub, Int.reduceAdd, Int.reduceMul, Int.reduceSub, Int.reduceNeg, Int.reduceToNat], by simp -implicitDefEqProofs (disch := first | omega | (simp only [St.set_n, St.up_n, List.length_cons, List.length_nil]; omega)) only [go_sem, Nat.reduceAdd, Nat.reduceMul, Nat.reduceSub, Int.reduceAdd, Int.reduceMul, Int.reduceSub, Int.reduceNeg, Int.reduceToNat], by simp -implicitDefEqProofs (disch := first | omega | (simp only [St.set_n, St.up_n, List.length_cons, List.length_nil]; omega)) only [go_sem, Nat.reduceAdd, Nat.reduceMul, Nat.reduceSub, Int.reduceAdd, Int.reduceMul, Int.reduceSub, Int.reduceNeg, Int.reduceToNat], by first | (simp -implicitDefEqProofs (disch := first | omega | (simp only [St.set_n, St.up_n, List.length_cons, List.length_nil]; omega)) only [go_sem, Nat.reduceAdd, Nat.reduceMul, Nat.reduceSub, Int.reduceAdd, Int.reduceMul, Int.reduceSub, Int.reduceNeg, Int.reduceToNat]; done) | (simp -implicitDefEqProofs (disch := first | omega | (simp only [St.set_n, St.up_n, List.length_cons, List.length_nil]; omega)) only [go_sem, Nat.reduceAdd, Nat.reduceMul, Nat.reduceSub, Int.reduceAdd, Int.reduceMul, Int.reduceSub, Int.reduceNeg, Int.reduceToNat]; rfl), by simp -implicitDefEqProofs (disch := first | omega | (simp only [St.set_n, St.up_n, List.length_cons, List.length_nil]; omega)) only [go_sem, Nat.reduceAdd, Nat.reduceMul, Nat.reduceSub, Int.reduceAdd, Int.reduceMul, Int.reduceSub, Int.reduceNeg, Int.reduceToNat]⟩, hF0⟩
    rintro m e s hws ⟨i, R, hm, hi, ⟨q0, q1, q2, q3, q4, q5, q13, q14, q15, hd⟩, hP⟩
    refine SemS.wp fun _ => ?_
    by_cases hlt : (i : Int) < M.length
    · obtain ⟨x, hx⟩ : ∃ x, M[i]? = some x := ⟨M[i]'(by omega), List.getElem?_eq_getElem (by omega)⟩
      obtain ⟨v, hv⟩ : ∃ x, W[i]? = some x := ⟨W[i]'(by omega), List.getElem?_eq_getElem (by omega)⟩
      have hlt' : (i : Int) < W.length := by omega
      obtain ⟨bw, ow, cw', csw, ew, hRw, hrw⟩ := hW.at hv
      obtain ⟨bm, om, cm', csm, em, hRm, hrm⟩ := hM.at hx
      simp only [RInt, RMg] at hRw hRm
      subst hRw hRm
      have hWt := hW.take (k := i + 1) (by omega)
      have hMt := hM.take (k := i + 1) (by omega)
      simp only [Value.slice.injEq, true_and] at ew em
      obtain ⟨rfl, rfl⟩ := ew
      obtain ⟨rfl, rfl⟩ := em
      obtain ⟨hbm, hcm⟩ := hrm s hws
      have g0 := hcm 0 (.string x.topic) rfl
      simp only [Nat.add_zero] at g0
      have g1 := hcm 1 (.string x.pay) rfl
      by_cases h1 : (100 : Int) < x.topic.size
      · simp -implicitDefEqProofs (disch := first | omega | (simp only [St.set_n, St.up_n, List.length_cons, List.length_nil]; omega)) only [go_sem, Nat.reduceAdd, Nat.reduceMul, Nat.reduceSub, Int.reduceAdd, Int.reduceMul, Int.reduceSub, Int.reduceNeg, Int.reduceToNat, q3, q15, hlt, g0, g1, h1, hd]
        exact ⟨_, To.refl _ _, hK _⟩
      by_cases h2 : (100 : Int) < x.pay.size
      · simp -implicitDefEqProofs (disch := first | omega | (simp only [St.set_n, St.up_n, List.length_cons, List.length_nil]; omega)) only [go_sem, Nat.reduceAdd, Nat.reduceMul, Nat.reduceSub, Int.reduceAdd, Int.reduceMul, Int.reduceSub, Int.reduceNeg, Int.reduceToNat, q3, q15, hlt, g0, g1, h1, h2, hd]
        exact ⟨_, To.refl _ _, hK _⟩
      obtain ⟨Al, Cl, Aq, Cq, Ad, Cd, ws, hbf, hS⟩ := hP.st
      have hbfn := (hws.2 _ _ hbf).2
      have hsm : ∀ m ∈ M.take (i + 1), SmM m := fun m hm => by
        obtain ⟨j, hj⟩ := List.getElem?_of_mem hm
        have hjl := (List.getElem?_eq_some_iff.1 hj).1
        rw [List.length_take] at hjl
        rw [List.getElem?_take_of_lt (by omega)] at hj
        by_cases e : j = i
        · subst e
          rw [hx] at hj; cases hj
          exact ⟨by omega, by omega⟩
        · exact hP.sm j m (by omega) hj
      have e3 : (i : Int) + 1 ≤ cw := by omega
      have e4 : (i : Int) + 1 ≤ cm := by omega
      have e5 : ((i : Int) + 1).toNat = i + 1 := by omega
      simp -implicitDefEqProofs (disch := first | omega | (simp only [St.set_n, St.up_n, List.length_cons, List.length_nil]; omega)) only [go_sem, Nat.reduceAdd, Nat.reduceMul, Nat.reduceSub, Int.reduceAdd, Int.reduceMul, Int.reduceSub, Int.reduceNeg, Int.reduceToNat, q0, q1, q2, q3, q14, q15, hlt, g0, g1, h1, h2, hbf, e3, e4, e5]
      refine effD_plan [0, 0, 0, 0, 8, 28, 0, 0, 128, 448, 1023, 2047] [0, 1, 2, 3, 4, 5, 6, 7, 8, 9] (.eag 0 (.eag 1 (.eag 2 (.eag 3 (.eag 4 (.eag 5 (.eag 6 (.eag 7 (.eag 8 (.eag 9 (.alt 10 [] (.alt 11 [] .fin .stop) .stop))))))))))) (by kernel_rfl) ?_
      simp -implicitDefEqProofs (disch := first | omega | (simp only [St.set_n, St.up_n, List.length_cons, List.length_nil]; omega)) only [go_sem, Nat.reduceAdd, Nat.reduceMul, Nat.reduceSub, Int.reduceAdd, Int.reduceMul, Int.reduceSub, Int.reduceNeg, Int.reduceToNat, q0, q1, q2, q3, q14, q15, hlt, g0, g1, h1, h2, hbf, e3, e4, e5]
      refine callF_wf (fill_of (W := W.take (i + 1)) (M := M.take (i + 1)) hWt hMt (by rw [List.length_take, List.length_take]; omega) (by rw [List.length_take]; omega) hsm fun lv qv dv ws3 s3 hS3 hn3 hk3 hw3 _ => ?_)
      have hlt1 : (M.take (i + 1)).length = i + 1 := by rw [List.length_take]; omega
      rw [hlt1, fillX_take (Nat.le_refl _)] at hS3
      obtain ⟨Al3, Cl3, rfl, _⟩ := hS3.ol.is
      obtain ⟨Aq3, Cq3, rfl, _⟩ := hS3.oq.is
      obtain ⟨Ad3, Cd3, rfl, _⟩ := hS3.od.is
      simp only [St.up_n] at hn3
      have hk03 : ∀ c y, s.m c = some y → s3.m c = some y := fun c y hx => hk3 c y (by
        have := (hws.2 _ _ hx).2
        simp -implicitDefEqProofs (disch := first | omega | (simp only [St.set_n, St.up_n, List.length_cons, List.length_nil]; omega)) only [go_sem, Nat.reduceAdd, Nat.reduceMul, Nat.reduceSub, Int.reduceAdd, Int.reduceMul, Int.reduceSub, Int.reduceNeg, Int.reduceToNat, hx])
      have p16 := hk3 s.n (.raw (.cells #[.slice Al (coreN subs) Cl, .int .i64 (roomN cap), .slice Aq (coreN subs) Cq, .slice Ad (coreN subs) Cd, .slice none 0 0, .slice none 0 0, .slice none 0 0, .int .i64 0] 37 (0, 0))) (by simp -implicitDefEqProofs (disch := first | omega | (simp only [St.set_n, St.up_n, List.length_cons, List.length_nil]; omega)) only [go_sem, Nat.reduceAdd, Nat.reduceMul, Nat.reduceSub, Int.reduceAdd, Int.reduceMul, Int.reduceSub, Int.reduceNeg, Int.reduceToNat])
      have p14 := hk03 _ _ hbf
      unfold stV
      simp -implicitDefEqProofs (disch := first | omega | (simp only [St.set_n, St.up_n, List.length_cons, List.length_nil]; omega)) only [go_sem, Nat.reduceAdd, Nat.reduceMul, Nat.reduceSub, Int.reduceAdd, Int.reduceMul, Int.reduceSub, Int.reduceNeg, Int.reduceToNat, q0, q1, q2, q3, q14, q15, p14]
      have hw4 := hw3.set (b := s1.n) (.raw (.cells #[.slice Al3 (coreN subs) Cl3, .int .i64 (roomN cap), .slice Aq3 (coreN subs) Cq3, .slice Ad3 (coreN subs) Cd3, .slice none 0 0, .slice none 0 0, .slice none 0 0, .int .i64 0] 37 (0, 0))) (hw3.2 _ _ p14)
      have r14 : (s3.set s1.n (.raw (.cells #[.slice Al3 (coreN subs) Cl3, .int .i64 (roomN cap), .slice Aq3 (coreN subs) Cq3, .slice Ad3 (coreN subs) Cd3, .slice none 0 0, .slice none 0 0, .slice none 0 0, .int .i64 0] 37 (0, 0)))).m s1.n = some (.raw (.cells #[.slice Al3 (coreN subs) Cl3, .int .i64 (roomN cap), .slice Aq3 (coreN subs) Cq3, .slice Ad3 (coreN subs) Cd3, .slice none 0 0, .slice none 0 0, .slice none 0 0, .int .i64 0] 37 (0, 0))) := by simp -implicitDefEqProofs (disch := first | omega | (simp only [St.set_n, St.up_n, List.length_cons, List.length_nil]; omega)) only [go_sem, Nat.reduceAdd, Nat.reduceMul, Nat.reduceSub, Int.reduceAdd, Int.reduceMul, Int.reduceSub, Int.reduceNeg, Int.reduceToNat]
      have hk4 : ∀ c y, c ≠ s1.n → s3.m c = some y → (s3.set s1.n (.raw (.cells #[.slice Al3 (coreN subs) Cl3, .int .i64 (roomN cap), .slice Aq3 (coreN subs) Cq3, .slice Ad3 (coreN subs) Cd3, .slice none 0 0, .slice none 0 0, .slice none 0 0, .int .i64 0] 37 (0, 0)))).m c = some y := fun c y hc hx => by
        rw [St.set_m_ne _ _ hc]; exact hx
      have hn4 : (s3.set s1.n (.raw (.cells #[.slice Al3 (coreN subs) Cl3, .int .i64 (roomN cap), .slice Aq3 (coreN subs) Cq3, .slice Ad3 (coreN subs) Cd3, .slice none 0 0, .slice none 0 0, .slice none 0 0, .int .i64 0] 37 (0, 0)))).n = s3.n := rfl
      generalize s3.set s1.n (.raw (.cells #[.slice Al3 (coreN subs) Cl3, .int .i64 (roomN cap), .slice Aq3 (coreN subs) Cq3, .slice Ad3 (coreN subs) Cd3, .slice none 0 0, .slice none 0 0, .slice none 0 0, .int .i64 0] 37 (0, 0))) = s4 at hw4 r14 hk4 hn4 ⊢
      have r16 := hk4 _ _ (by omega) p16
      obtain ⟨hbw4, hcw4⟩ := hrw s4 hw4
      obtain ⟨hbm4, hcm4⟩ := hrm s4 hw4
      have f0 := hcw4 0 _ rfl
      simp only [Nat.mul_one, Nat.add_zero] at f0
      simp -implicitDefEqProofs (disch := first | omega | (simp only [St.set_n, St.up_n, List.length_cons, List.length_nil]; omega)) only [go_sem, Nat.reduceAdd, Nat.reduceMul, Nat.reduceSub, Int.reduceAdd, Int.reduceMul, Int.reduceSub, Int.reduceNeg, Int.reduceToNat, q0, q1, q2, q3, q14, q15, hlt', r14, r16, f0]
      refine effD_plan [0, 0, 0, 6, 14, 31, 63, 127, 255, 127, 127, 1663, 3711, 7807, 16383, 32767, 65535, 127, 131199, 127, 127, 1572991, 3670143, 7864447, 16646271, 33423487, 66977919, 134217727, 268435455, 536870911] [0, 1, 2, 3, 4, 6, 7, 8, 9, 10, 11, 12, 13, 14, 15, 16, 17, 18, 19, 20, 21, 22, 23, 24, 25, 26, 27, 28, 29] (.eagq 0 (.eag 1 (.eag 2 (.eag 3 (.eagq 4 (.alt 5 [] (.eag 6 (.eag 7 (.eagq 8 (.eag 9 (.eag 10 (.eag 11 (.eagq 12 (.eag 13 (.eag 14 (.eagq 15 (.eagq 16 (.eag 17 (.eagq 18 (.eag 19 (.eag 20 (.eag 21 (.eagq 22 (.eag 23 (.eag 24 (.eagq 25 (.eagq 26 (.eag 27 (.eag 28 (.eag 29 .fin)))))))))))))))))))))))) .stop)))))) (by kernel_rfl) ?_
      simp -implicitDefEqProofs (disch := first | omega | (simp only [St.set_n, St.up_n, List.length_cons, List.length_nil]; omega)) only [go_sem, Nat.reduceAdd, Nat.reduceMul, Nat.reduceSub, Int.reduceAdd, Int.reduceMul, Int.reduceSub, Int.reduceNeg, Int.reduceToNat, q0, q1, q2, q3, q14, q15, hlt', r14, r16, f0]
      have e6 : (.agg #[.slice Al3 (coreN subs) Cl3, .int .i64 (roomN cap), .slice Aq3 (coreN subs) Cq3, .slice Ad3 (coreN subs) Cd3, .slice none 0 0, .slice none 0 0, .slice none 0 0, .int .i64 0] : Value) = stV (roomN cap) (.slice Al3 (coreN subs) Cl3) (.slice Aq3 (coreN subs) Cq3) (.slice Ad3 (coreN subs) Cd3) := rfl
      rw [e6]
      refine callF_wf (there_of ⟨_, _, _, rfl⟩ ⟨_, _, _, rfl⟩ rfl fun s5 hn5 hk5 hw5 => ?_)
      have t14 := hk5 _ _ r14
      have t16 := hk5 _ _ r16
      obtain ⟨hbw5, hcw5⟩ := hrw s5 hw5
      have u0 := hcw5 0 _ rfl
      simp only [Nat.mul_one, Nat.add_zero] at u0
      have hC4 : CoreI q (coreN subs) (roomN cap) R rr rb w s4 := hP.core.keepB hbf fun c y hc hx => hk4 c y hc (hk03 c y hx)
      have hC5 := hC4.keep hk5
      have hS5 : StOk (coreN subs) s5 (fillX (coreN subs) (roomN cap) W M (i + 1)) (.slice Al3 (coreN subs) Cl3) (.slice Aq3 (coreN subs) Cq3) (.slice Ad3 (coreN subs) Cd3) ws3 := hS3.keepT fun c cs ty hc h1 _ => hk5 _ _ (hk4 _ _ (neT p14 hc h1) hc)
      have hS05 : StOk (coreN subs) s5 (fillX (coreN subs) (roomN cap) W M i) (.slice Al (coreN subs) Cl) (.slice Aq (coreN subs) Cq) (.slice Ad (coreN subs) Cd) ws := hS.keepT fun c cs ty hc h1 _ => hk5 _ _ (hk4 _ _ (neT p14 (hk03 _ _ hc) h1) (hk03 _ _ hc))
      obtain ⟨hbm5, hcm5⟩ := hrm s5 hw5
      have u1 := hcm5 0 (.string x.topic) rfl
      simp only [Nat.add_zero] at u1
      have u2 := hcm5 1 (.string x.pay) rfl
      have u3 := hcm5 2 (.bool x.kept) rfl
      have hRD : ∀ j, j < coreN subs → 0 ≤ (R j).D ∧ (R j).D ≤ 1000 := fun j hj => hS.dd _ (List.mem_of_getElem? (xsOf_inj hP.x hj).2)
      have hRv : fillX (coreN subs) (roomN cap) W M (i + 1) = xsOf (coreN subs) (if 1 ≤ v ∧ v ≤ (coreN subs : Int) then updL R (v - 1).toNat (putR (roomN cap) (R (v - 1).toNat) x) else R) := by
        rw [← fill1_put hRD, hP.x]
        simp only [fillX, hv, hx]
      have hfin : ∀ s6, CoreI q (coreN subs) (roomN cap) (if 1 ≤ v ∧ v ≤ (coreN subs : Int) then updL R (v - 1).toNat (putR (roomN cap) (R (v - 1).toNat) x) else R) rr rb w s6 → (∀ c y, (∀ j, j < coreN subs → c ≠ rr j ∧ c ≠ rb j) → s5.m c = some y → s6.m c = some y) →
          PlS (coreN subs) (roomN cap) W M q rr rb w (if 1 ≤ v ∧ v ≤ (coreN subs : Int) then updL R (v - 1).toNat (putR (roomN cap) (R (v - 1).toNat) x) else R) s1.n (i + 1) s6 := fun s6 hC6 hk6 => by
        refine ⟨hC6, ⟨Al3, Cl3, Aq3, Cq3, Ad3, Cd3, ws3, hk6 _ _ (hC5.offs t14 (by decide) (by decide)) t14, hS5.keepY fun c cs ty h1 h2 hc => hk6 _ _ (hC5.offs hc h1 h2) hc⟩, hRv.symm, fun j => ?_, fun j hj => ?_, fun j mj hj hmj => ?_⟩
        · split
          · unfold updL
            split
            · exact hP.G _
            · exact hP.G j
          · exact hP.G j
        · have h5 := hP.rl j hj
          split
          · unfold updL
            split
            · rename_i e
              unfold putR
              simp only
              split
              · rw [List.length_append]; simp only [List.length_cons, List.length_nil]; omega
              · rw [← e]; exact h5
            · exact h5
          · exact h5
        · by_cases e : j = i
          · subst e
            rw [hx] at hmj; cases hmj
            exact ⟨by omega, by omega⟩
          · exact hP.sm j mj (by omega) hmj
      cases hin : inR (coreN subs) v with
      | false =>
        have hnv : ¬ (1 ≤ v ∧ v ≤ (coreN subs : Int)) := by unfold inR at hin; exact of_decide_eq_false hin

        simp -implicitDefEqProofs (disch := first | omega | (simp only [St.set_n, St.up_n, List.length_cons, List.length_nil]; omega)) only [go_sem, Nat.reduceAdd, Nat.reduceMul, Nat.reduceSub, Int.reduceAdd, Int.reduceMul, Int.reduceSub, Int.reduceNeg, Int.reduceToNat, q0, q1, q2, q3, q13, q14, q15, hlt, hlt', t14, t16, u0, u1, u2, u3]
        refine effD_plan [0, 0, 0, 6, 14, 0, 0, 96, 224, 511, 0, 2047] [0, 1, 2, 3, 4, 5, 6, 7, 8, 10, 11] (.eag 0 (.eag 1 (.eag 2 (.eag 3 (.eagq 4 (.eag 5 (.eag 6 (.eag 7 (.eagq 8 (.eag 10 (.alt 9 [] (.eag 11 .fin) .stop))))))))))) (by kernel_rfl) ?_
        simp -implicitDefEqProofs (disch := first | omega | (simp only [St.set_n, St.up_n, List.length_cons, List.length_nil]; omega)) only [go_sem, Nat.reduceAdd, Nat.reduceMul, Nat.reduceSub, Int.reduceAdd, Int.reduceMul, Int.reduceSub, Int.reduceNeg, Int.reduceToNat, q0, q1, q2, q3, q13, q14, q15, hlt, hlt', t14, t16, u0, u1, u2, u3]
        have e7 : (#[.string x.topic, .string x.pay, .bool x.kept] : Array Value) = (fM x).toArray := rfl
        rw [e7]
        refine callF_wf (put_of hC5 h8 (fun j _ => hP.G j) fun s6 hC6 hn6 hk6 hw6 _ => ?_)
        rw [decide_eq_false hnv, Bool.false_and]
        simp -implicitDefEqProofs (disch := first | omega | (simp only [St.set_n, St.up_n, List.length_cons, List.length_nil]; omega)) only [go_sem, Nat.reduceAdd, Nat.reduceMul, Nat.reduceSub, Int.reduceAdd, Int.reduceMul, Int.reduceSub, Int.reduceNeg, Int.reduceToNat, q15]
        exact ⟨M.length - (i + 1), by omega, _, To.refl _ _, i + 1, _, rfl, by omega, ⟨by simp -implicitDefEqProofs (disch := first | omega | (simp only [St.set_n, St.up_n, List.length_cons, List.length_nil]; omega)) only [go_sem, Nat.reduceAdd, Nat.reduceMul, Nat.reduceSub, Int.reduceAdd, Int.reduceMul, Int.reduceSub, Int.reduceNeg, Int.reduceToNat, q0], by simp -implicitDefEqProofs (disch := first | omega | (simp only [St.set_n, St.up_n, List.length_cons, List.length_nil]; omega)) only [go_sem, Nat.reduceAdd, Nat.reduceMul, Nat.reduceSub, Int.reduceAdd, Int.reduceMul, Int.reduceSub, Int.reduceNeg, Int.reduceToNat, q1], by simp -implicitDefEqProofs (disch := first | omega | (simp only [St.set_n, St.up_n, List.length_cons, List.length_nil]; omega)) only [go_sem, Nat.reduceAdd, Nat.reduceMul, Nat.reduceSub, Int.reduceAdd, Int.reduceMul, Int.reduceSub, Int.reduceNeg, Int.reduceToNat, q2], by simp -implicitDefEqProofs (disch := first | omega | (simp only [St.set_n, St.up_n, List.length_cons, List.length_nil]; omega)) only [go_sem, Nat.reduceAdd, Nat.reduceMul, Nat.reduceSub, Int.reduceAdd, Int.reduceMul, Int.reduceSub, Int.reduceNeg, Int.reduceToNat, q3], by simp -implicitDefEqProofs (disch := first | omega | (simp only [St.set_n, St.up_n, List.length_cons, List.length_nil]; omega)) only [go_sem, Nat.reduceAdd, Nat.reduceMul, Nat.reduceSub, Int.reduceAdd, Int.reduceMul, Int.reduceSub, Int.reduceNeg, Int.reduceToNat, q4], by simp -implicitDefEqProofs (disch := first | omega | (simp only [St.set_n, St.up_n, List.length_cons, List.length_nil]; omega)) only [go_sem, Nat.reduceAdd, Nat.reduceMul, Nat.reduceSub, Int.reduceAdd, Int.reduceMul, Int.reduceSub, Int.reduceNeg, Int.reduceToNat, q5], by simp -implicitDefEqProofs (disch := first | omega | (simp only [St.set_n, St.up_n, List.length_cons, List.length_nil]; omega)) only [go_sem, Nat.reduceAdd, Nat.reduceMul, Nat.reduceSub, Int.reduceAdd, Int.reduceMul, Int.reduceSub, Int.reduceNeg, Int.reduceToNat, q13], by simp -implicitDefEqProofs (disch := first | omega | (simp only [St.set_n, St.up_n, List.length_cons, List.length_nil]; omega)) only [go_sem, Nat.reduceAdd, Nat.reduceMul, Nat.reduceSub, Int.reduceAdd, Int.reduceMul, Int.reduceSub, Int.reduceNeg, Int.reduceToNat, q14], by simp -implicitDefEqProofs (disch := first | omega | (simp only [St.set_n, St.up_n, List.length_cons, List.length_nil]; omega)) only [go_sem, Nat.reduceAdd, Nat.reduceMul, Nat.reduceSub, Int.reduceAdd, Int.reduceMul, Int.reduceSub, Int.reduceNeg, Int.reduceToNat]; rfl, by simp -implicitDefEqProofs (disch := first | omega | (simp only [St.set_n, St.up_n, List.length_cons, List.length_nil]; omega)) only [go_sem, Nat.reduceAdd, Nat.reduceMul, Nat.reduceSub, Int.reduceAdd, Int.reduceMul, Int.reduceSub, Int.reduceNeg, Int.reduceToNat, hd]⟩, hfin s6 hC6 hk6⟩
      | true =>
        have hvv : 1 ≤ v ∧ v ≤ (coreN subs : Int) := by unfold inR at hin; exact of_decide_eq_true hin
        obtain ⟨k, rfl⟩ : ∃ k : Nat, v = (k : Int) + 1 := ⟨(v - 1).toNat, by omega⟩
        have hkN : k < coreN subs := by omega
        have e8 : (k : Int) + 1 - 1 = k := by omega
        have e9 : ((k : Int) + 1 - 1).toNat = k := by omega
        have hk' : (k : Int) < coreN subs := by omega
        rw [if_pos hvv, e9] at hRv
        have hq0 := (xsOf_inj hP.x hkN).1
        have hq1 := (xsOf_inj hRv.symm hkN).1
        rw [updL_eq] at hq1
        obtain ⟨w0, hw0⟩ : ∃ w, ws[k]? = some w := ⟨ws[k]'(by have := hS.lw; omega), List.getElem?_eq_getElem _⟩
        obtain ⟨w1, hw1'⟩ : ∃ w, ws3[k]? = some w := ⟨ws3[k]'(by have := hS3.lw; omega), List.getElem?_eq_getElem _⟩
        obtain ⟨bq0, cq0, sp0, eq0, hcq0, mq0, _, _⟩ := hS05.oq.has (by omega)
        obtain ⟨bq1, cq1, sp1, eq1, hcq1, mq1, _, _⟩ := hS5.oq.has (by omega)
        cases eq0
        cases eq1
        have gq0 : (ws ++ sp0)[k]? = some w0 := by
          rw [List.getElem?_append_left (by have := hS.lw; omega)]; exact hw0
        have gq1 : (ws3 ++ sp1)[k]? = some w1 := by
          rw [List.getElem?_append_left (by have := hS3.lw; omega)]; exact hw1'
        obtain ⟨Aw0, Cw0, rfl, _⟩ := (hS05.hw k w0 _ hw0 hq0).is
        obtain ⟨Aw1, Cw1, rfl, _⟩ := (hS5.hw k w1 _ hw1' hq1).is
        by_cases hlr : (R k).L.length < roomN cap
        · have hln : (putR (roomN cap) (R k) x).L.length = (R k).L.length + 1 := by unfold putR; simp only [if_pos hlr]; simp
          rw [hln] at gq1
          have hgt : ((R k).L.length : Int) < (((R k).L.length + 1 : Nat) : Int) := by omega

          simp -implicitDefEqProofs (disch := first | omega | (simp only [St.set_n, St.up_n, List.length_cons, List.length_nil]; omega)) only [go_sem, Nat.reduceAdd, Nat.reduceMul, Nat.reduceSub, Int.reduceAdd, Int.reduceMul, Int.reduceSub, Int.reduceNeg, Int.reduceToNat, q0, q1, q2, q3, q13, q14, q15, hlt, hlt', t14, t16, u0, u1, u2, u3, e8, hk', mq0, mq1, gq0, gq1, hgt]
          refine effD_plan [0, 0, 0, 6, 14, 0, 0, 96, 224, 511, 0, 2047] [0, 1, 2, 3, 4, 5, 6, 7, 8, 10, 11] (.eag 0 (.eag 1 (.eag 2 (.eag 3 (.eagq 4 (.eag 5 (.eag 6 (.eag 7 (.eagq 8 (.eag 10 (.alt 9 [] (.eag 11 .fin) .stop))))))))))) (by kernel_rfl) ?_
          simp -implicitDefEqProofs (disch := first | omega | (simp only [St.set_n, St.up_n, List.length_cons, List.length_nil]; omega)) only [go_sem, Nat.reduceAdd, Nat.reduceMul, Nat.reduceSub, Int.reduceAdd, Int.reduceMul, Int.reduceSub, Int.reduceNeg, Int.reduceToNat, q0, q1, q2, q3, q13, q14, q15, hlt, hlt', t14, t16, u0, u1, u2, u3, e8, hk', mq0, mq1, gq0, gq1, hgt]
          have e7 : (#[.string x.topic, .string x.pay, .bool x.kept] : Array Value) = (fM x).toArray := rfl
          rw [e7]
          refine callF_wf (put_of hC5 h8 (fun j _ => hP.G j) fun s6 hC6 hn6 hk6 hw6 _ => ?_)
          rw [e9, decide_eq_true hvv, decide_eq_true hlr]
          simp -implicitDefEqProofs (disch := first | omega | (simp only [St.set_n, St.up_n, List.length_cons, List.length_nil]; omega)) only [go_sem, Nat.reduceAdd, Nat.reduceMul, Nat.reduceSub, Int.reduceAdd, Int.reduceMul, Int.reduceSub, Int.reduceNeg, Int.reduceToNat, q15]
          exact ⟨M.length - (i + 1), by omega, _, To.refl _ _, i + 1, _, rfl, by omega, ⟨by simp -implicitDefEqProofs (disch := first | omega | (simp only [St.set_n, St.up_n, List.length_cons, List.length_nil]; omega)) only [go_sem, Nat.reduceAdd, Nat.reduceMul, Nat.reduceSub, Int.reduceAdd, Int.reduceMul, Int.reduceSub, Int.reduceNeg, Int.reduceToNat, q0], by simp -implicitDefEqProofs (disch := first | omega | (simp only [St.set_n, St.up_n, List.length_cons, List.length_nil]; omega)) only [go_sem, Nat.reduceAdd, Nat.reduceMul, Nat.reduceSub, Int.reduceAdd, Int.reduceMul, Int.reduceSub, Int.reduceNeg, Int.reduceToNat, q1], by simp -implicitDefEqProofs (disch := first | omega | (simp only [St.set_n, St.up_n, List.length_cons, List.length_nil]; omega)) only [go_sem, Nat.reduceAdd, Nat.reduceMul, Nat.reduceSub, Int.reduceAdd, Int.reduceMul, Int.reduceSub, Int.reduceNeg, Int.reduceToNat, q2], by simp -implicitDefEqProofs (disch := first | omega | (simp only [St.set_n, St.up_n, List.length_cons, List.length_nil]; omega)) only [go_sem, Nat.reduceAdd, Nat.reduceMul, Nat.reduceSub, Int.reduceAdd, Int.reduceMul, Int.reduceSub, Int.reduceNeg, Int.reduceToNat, q3], by simp -implicitDefEqProofs (disch := first | omega | (simp only [St.set_n, St.up_n, List.length_cons, List.length_nil]; omega)) only [go_sem, Nat.reduceAdd, Nat.reduceMul, Nat.reduceSub, Int.reduceAdd, Int.reduceMul, Int.reduceSub, Int.reduceNeg, Int.reduceToNat, q4], by simp -implicitDefEqProofs (disch := first | omega | (simp only [St.set_n, St.up_n, List.length_cons, List.length_nil]; omega)) only [go_sem, Nat.reduceAdd, Nat.reduceMul, Nat.reduceSub, Int.reduceAdd, Int.reduceMul, Int.reduceSub, Int.reduceNeg, Int.reduceToNat, q5], by simp -implicitDefEqProofs (disch := first | omega | (simp only [St.set_n, St.up_n, List.length_cons, List.length_nil]; omega)) only [go_sem, Nat.reduceAdd, Nat.reduceMul, Nat.reduceSub, Int.reduceAdd, Int.reduceMul, Int.reduceSub, Int.reduceNeg, Int.reduceToNat, q13], by simp -implicitDefEqProofs (disch := first | omega | (simp only [St.set_n, St.up_n, List.length_cons, List.length_nil]; omega)) only [go_sem, Nat.reduceAdd, Nat.reduceMul, Nat.reduceSub, Int.reduceAdd, Int.reduceMul, Int.reduceSub, Int.reduceNeg, Int.reduceToNat, q14], by simp -implicitDefEqProofs (disch := first | omega | (simp only [St.set_n, St.up_n, List.length_cons, List.length_nil]; omega)) only [go_sem, Nat.reduceAdd, Nat.reduceMul, Nat.reduceSub, Int.reduceAdd, Int.reduceMul, Int.reduceSub, Int.reduceNeg, Int.reduceToNat]; rfl, by simp -implicitDefEqProofs (disch := first | omega | (simp only [St.set_n, St.up_n, List.length_cons, List.length_nil]; omega)) only [go_sem, Nat.reduceAdd, Nat.reduceMul, Nat.reduceSub, Int.reduceAdd, Int.reduceMul, Int.reduceSub, Int.reduceNeg, Int.reduceToNat, hd]⟩, hfin s6 hC6 hk6⟩
        · have hln : (putR (roomN cap) (R k) x).L.length = (R k).L.length := by unfold putR; simp only [if_neg hlr]
          rw [hln] at gq1
          have hgt : ¬ ((R k).L.length : Int) < (R k).L.length := by omega

          simp -implicitDefEqProofs (disch := first | omega | (simp only [St.set_n, St.up_n, List.length_cons, List.length_nil]; omega)) only [go_sem, Nat.reduceAdd, Nat.reduceMul, Nat.reduceSub, Int.reduceAdd, Int.reduceMul, Int.reduceSub, Int.reduceNeg, Int.reduceToNat, q0, q1, q2, q3, q13, q14, q15, hlt, hlt', t14, t16, u0, u1, u2, u3, e8, hk', mq0, mq1, gq0, gq1, hgt]
          refine effD_plan [0, 0, 0, 6, 14, 0, 0, 96, 224, 511, 0, 2047] [0, 1, 2, 3, 4, 5, 6, 7, 8, 10, 11] (.eag 0 (.eag 1 (.eag 2 (.eag 3 (.eagq 4 (.eag 5 (.eag 6 (.eag 7 (.eagq 8 (.eag 10 (.alt 9 [] (.eag 11 .fin) .stop))))))))))) (by kernel_rfl) ?_
          simp -implicitDefEqProofs (disch := first | omega | (simp only [St.set_n, St.up_n, List.length_cons, List.length_nil]; omega)) only [go_sem, Nat.reduceAdd, Nat.reduceMul, Nat.reduceSub, Int.reduceAdd, Int.reduceMul, Int.reduceSub, Int.reduceNeg, Int.reduceToNat, q0, q1, q2, q3, q13, q14, q15, hlt, hlt', t14, t16, u0, u1, u2, u3, e8, hk', mq0, mq1, gq0, gq1, hgt]
          have e7 : (#[.string x.topic, .string x.pay, .bool x.kept] : Array Value) = (fM x).toArray := rfl
          rw [e7]
          refine callF_wf (put_of hC5 h8 (fun j _ => hP.G j) fun s6 hC6 hn6 hk6 hw6 _ => ?_)
          rw [e9, decide_eq_true hvv, decide_eq_false hlr]
          simp -implicitDefEqProofs (disch := first | omega | (simp only [St.set_n, St.up_n, List.length_cons, List.length_nil]; omega)) only [go_sem, Nat.reduceAdd, Nat.reduceMul, Nat.reduceSub, Int.reduceAdd, Int.reduceMul, Int.reduceSub, Int.reduceNeg, Int.reduceToNat, q15, hgt]
          exact ⟨M.length - (i + 1), by omega, _, To.refl _ _, i + 1, _, rfl, by omega, ⟨by simp -implicitDefEqProofs (disch := first | omega | (simp only [St.set_n, St.up_n, List.length_cons, List.length_nil]; omega)) only [go_sem, Nat.reduceAdd, Nat.reduceMul, Nat.reduceSub, Int.reduceAdd, Int.reduceMul, Int.reduceSub, Int.reduceNeg, Int.reduceToNat, q0], by simp -implicitDefEqProofs (disch := first | omega | (simp only [St.set_n, St.up_n, List.length_cons, List.length_nil]; omega)) only [go_sem, Nat.reduceAdd, Nat.reduceMul, Nat.reduceSub, Int.reduceAdd, Int.reduceMul, Int.reduceSub, Int.reduceNeg, Int.reduceToNat, q1], by simp -implicitDefEqProofs (disch := first | omega | (simp only [St.set_n, St.up_n, List.length_cons, List.length_nil]; omega)) only [go_sem, Nat.reduceAdd, Nat.reduceMul, Nat.reduceSub, Int.reduceAdd, Int.reduceMul, Int.reduceSub, Int.reduceNeg, Int.reduceToNat, q2], by simp -implicitDefEqProofs (disch := first | omega | (simp only [St.set_n, St.up_n, List.length_cons, List.length_nil]; omega)) only [go_sem, Nat.reduceAdd, Nat.reduceMul, Nat.reduceSub, Int.reduceAdd, Int.reduceMul, Int.reduceSub, Int.reduceNeg, Int.reduceToNat, q3], by simp -implicitDefEqProofs (disch := first | omega | (simp only [St.set_n, St.up_n, List.length_cons, List.length_nil]; omega)) only [go_sem, Nat.reduceAdd, Nat.reduceMul, Nat.reduceSub, Int.reduceAdd, Int.reduceMul, Int.reduceSub, Int.reduceNeg, Int.reduceToNat, q4], by simp -implicitDefEqProofs (disch := first | omega | (simp only [St.set_n, St.up_n, List.length_cons, List.length_nil]; omega)) only [go_sem, Nat.reduceAdd, Nat.reduceMul, Nat.reduceSub, Int.reduceAdd, Int.reduceMul, Int.reduceSub, Int.reduceNeg, Int.reduceToNat, q5], by simp -implicitDefEqProofs (disch := first | omega | (simp only [St.set_n, St.up_n, List.length_cons, List.length_nil]; omega)) only [go_sem, Nat.reduceAdd, Nat.reduceMul, Nat.reduceSub, Int.reduceAdd, Int.reduceMul, Int.reduceSub, Int.reduceNeg, Int.reduceToNat, q13], by simp -implicitDefEqProofs (disch := first | omega | (simp only [St.set_n, St.up_n, List.length_cons, List.length_nil]; omega)) only [go_sem, Nat.reduceAdd, Nat.reduceMul, Nat.reduceSub, Int.reduceAdd, Int.reduceMul, Int.reduceSub, Int.reduceNeg, Int.reduceToNat, q14], by simp -implicitDefEqProofs (disch := first | omega | (simp only [St.set_n, St.up_n, List.length_cons, List.length_nil]; omega)) only [go_sem, Nat.reduceAdd, Nat.reduceMul, Nat.reduceSub, Int.reduceAdd, Int.reduceMul, Int.reduceSub, Int.reduceNeg, Int.reduceToNat]; rfl, by simp -implicitDefEqProofs (disch := first | omega | (simp only [St.set_n, St.up_n, List.length_cons, List.length_nil]; omega)) only [go_sem, Nat.reduceAdd, Nat.reduceMul, Nat.reduceSub, Int.reduceAdd, Int.reduceMul, Int.reduceSub, Int.reduceNeg, Int.reduceToNat, hd]⟩, hfin s6 hC6 hk6⟩
    · have hi' : i = M.length := by omega
      subst hi'
      simp -implicitDefEqProofs (disch := first | omega | (simp only [St.set_n, St.up_n, List.length_cons, List.length_nil]; omega)) only [go_sem, Nat.reduceAdd, Nat.reduceMul, Nat.reduceSub, Int.reduceAdd, Int.reduceMul, Int.reduceSub, Int.reduceNeg, Int.reduceToNat, q3, q15, hlt]
      exact ⟨_, To.refl _ _, R, ⟨by simp -implicitDefEqProofs (disch := first | omega | (simp only [St.set_n, St.up_n, List.length_cons, List.length_nil]; omega)) only [go_sem, Nat.reduceAdd, Nat.reduceMul, Nat.reduceSub, Int.reduceAdd, Int.reduceMul, Int.reduceSub, Int.reduceNeg, Int.reduceToNat, q0], by simp -implicitDefEqProofs (disch := first | omega | (simp only [St.set_n, St.up_n, List.length_cons, List.length_nil]; omega)) only [go_sem, Nat.reduceAdd, Nat.reduceMul, Nat.reduceSub, Int.reduceAdd, Int.reduceMul, Int.reduceSub, Int.reduceNeg, Int.reduceToNat, q1], by simp -implicitDefEqProofs (disch := first | omega | (simp only [St.set_n, St.up_n, List.length_cons, List.length_nil]; omega)) only [go_sem, Nat.reduceAdd, Nat.reduceMul, Nat.reduceSub, Int.reduceAdd, Int.reduceMul, Int.reduceSub, Int.reduceNeg, Int.reduceToNat, q2], by simp -implicitDefEqProofs (disch := first | omega | (simp only [St.set_n, St.up_n, List.length_cons, List.length_nil]; omega)) only [go_sem, Nat.reduceAdd, Nat.reduceMul, Nat.reduceSub, Int.reduceAdd, Int.reduceMul, Int.reduceSub, Int.reduceNeg, Int.reduceToNat, q3], by simp -implicitDefEqProofs (disch := first | omega | (simp only [St.set_n, St.up_n, List.length_cons, List.length_nil]; omega)) only [go_sem, Nat.reduceAdd, Nat.reduceMul, Nat.reduceSub, Int.reduceAdd, Int.reduceMul, Int.reduceSub, Int.reduceNeg, Int.reduceToNat, q4], by simp -implicitDefEqProofs (disch := first | omega | (simp only [St.set_n, St.up_n, List.length_cons, List.length_nil]; omega)) only [go_sem, Nat.reduceAdd, Nat.reduceMul, Nat.reduceSub, Int.reduceAdd, Int.reduceMul, Int.reduceSub, Int.reduceNeg, Int.reduceToNat, q5], by simp -implicitDefEqProofs (disch := first | omega | (simp only [St.set_n, St.up_n, List.length_cons, List.length_nil]; omega)) only [go_sem, Nat.reduceAdd, Nat.reduceMul, Nat.reduceSub, Int.reduceAdd, Int.reduceMul, Int.reduceSub, Int.reduceNeg, Int.reduceToNat, q13], by simp -implicitDefEqProofs (disch := first | omega | (simp only [St.set_n, St.up_n, List.length_cons, List.length_nil]; omega)) only [go_sem, Nat.reduceAdd, Nat.reduceMul, Nat.reduceSub, Int.reduceAdd, Int.reduceMul, Int.reduceSub, Int.reduceNeg, Int.reduceToNat, q14], by simp -implicitDefEqProofs (disch := first | omega | (simp only [St.set_n, St.up_n, List.length_cons, List.length_nil]; omega)) only [go_sem, Nat.reduceAdd, Nat.reduceMul, Nat.reduceSub, Int.reduceAdd, Int.reduceMul, Int.reduceSub, Int.reduceNeg, Int.reduceToNat, q15], by simp -implicitDefEqProofs (disch := first | omega | (simp only [St.set_n, St.up_n, List.length_cons, List.length_nil]; omega)) only [go_sem, Nat.reduceAdd, Nat.reduceMul, Nat.reduceSub, Int.reduceAdd, Int.reduceMul, Int.reduceSub, Int.reduceNeg, Int.reduceToNat, hd]⟩, hP⟩
  · rintro e s hws ⟨R, ⟨q0, q1, q2, q3, q4, q5, q13, q14, q15, hd⟩, hP⟩
    obtain ⟨Al, Cl, Aq, Cq, Ad, Cd, ws1, hbf, hS⟩ := hP.st
    refine SemS.seqw fun _ => ?_
    simp -implicitDefEqProofs (disch := first | omega | (simp only [St.set_n, St.up_n, List.length_cons, List.length_nil]; omega)) only [go_sem, Nat.reduceAdd, Nat.reduceMul, Nat.reduceSub, Int.reduceAdd, Int.reduceMul, Int.reduceSub, Int.reduceNeg, Int.reduceToNat]
    refine callF_wf (log_new fun k2 hk2 hwl => ?_)
    have hkl : ∀ c y, s.m c = some y → ((s.set s.n (.comp (LogR ⟨[], 0⟩ s.n))).up k2).m c = some y := fun c y hx => by
      have := (hws.2 _ _ hx).2
      simp -implicitDefEqProofs (disch := first | omega | (simp only [St.set_n, St.up_n, List.length_cons, List.length_nil]; omega)) only [go_sem, Nat.reduceAdd, Nat.reduceMul, Nat.reduceSub, Int.reduceAdd, Int.reduceMul, Int.reduceSub, Int.reduceNeg, Int.reduceToNat, hx]
    have hml : ((s.set s.n (.comp (LogR ⟨[], 0⟩ s.n))).up k2).m s.n = some (.comp (LogR ⟨[], 0⟩ s.n)) := by simp -implicitDefEqProofs (disch := first | omega | (simp only [St.set_n, St.up_n, List.length_cons, List.length_nil]; omega)) only [go_sem, Nat.reduceAdd, Nat.reduceMul, Nat.reduceSub, Int.reduceAdd, Int.reduceMul, Int.reduceSub, Int.reduceNeg, Int.reduceToNat]
    have hnl : ((s.set s.n (.comp (LogR ⟨[], 0⟩ s.n))).up k2).n = k2 := rfl
    simp -implicitDefEqProofs (disch := first | omega | (simp only [St.set_n, St.up_n, List.length_cons, List.length_nil]; omega)) only [go_sem, Nat.reduceAdd, Nat.reduceMul, Nat.reduceSub, Int.reduceAdd, Int.reduceMul, Int.reduceSub, Int.reduceNeg, Int.reduceToNat]
    generalize (s.set s.n (.comp (LogR ⟨[], 0⟩ s.n))).up k2 = sl at hkl hml hnl hwl ⊢
    have hCl := hP.core.keep hkl
    have hcl : q.c < s.n := by obtain ⟨p, ro, a0, a1, a2, a3, hc⟩ := hP.core.core; exact (hws.2 _ _ hc).2
    have hOW := coI0 (σ := ⟨fun _ => none, 0⟩) hCl hml hcl (Nat.zero_le _) (Nat.zero_le _) (Nat.zero_le _) (fun c y hx => by cases hx) (Nat.zero_le _)
    have hCD := hCl.coD (lp := s.n) (.inr ⟨_, hml⟩)
    have hCF := hCl.coF (.inr ⟨_, hml⟩) (by have := hCl.le; omega)
    have hYW := coYW (rn := roomN cap) hCD (by omega) (by omega) (by omega) hCF
    have hGf : ∀ {c : Nat} {cs : Array Value} {ty : TypeId}, sl.m c = some (.raw (.cells cs ty (0, 0))) → ty ≠ 168 → ty ≠ 149 → ty ≠ 151 → ty ≠ 87 → ty ≠ 138 → ty ≠ 100 → c < sl.n ∧ coH q s.n (coreN subs) (roomN cap) rr rb (coF q w sl) ⟨fun _ => (0, 0, 0), ⟨[], 0⟩, R⟩ c = none := fun hc t1 t2 t3 t4 t5 t6 => ⟨(hwl.2 _ _ hc).2, coH_off hCl ⟨_, hml⟩ hCD hc t1 t2 t3 t4 t5 t6⟩
    have hHq : ∀ u, coH q s.n (coreN subs) (roomN cap) rr rb (coF q w sl) u q.c = sl.m q.c ∧ coH q s.n (coreN subs) (roomN cap) rr rb (coF q w sl) u q.e = sl.m q.e := fun u => by
      have hf1 : coF q w sl q.c = sl.m q.c := by unfold Go.Proofs.YtdbgeahmhfocaaaGreat.coF; rw [if_pos (.inl rfl)]
      have hf2 : coF q w sl q.e = sl.m q.e := by unfold Go.Proofs.YtdbgeahmhfocaaaGreat.coF; rw [if_pos (.inr (.inr (.inl rfl)))]
      obtain ⟨p, ro, a0, a1, a2, a3, hc⟩ := hCl.core
      obtain ⟨z1, z2, z3⟩ := hCF.off q.c (by rw [hf1, hc]; simp)
      obtain ⟨y1, y2, y3⟩ := hCF.off q.e (by rw [hf2, hCl.ep]; simp)
      exact ⟨(coH_F z1 z2 z3).trans hf1, (coH_F y1 y2 y3).trans hf2⟩
    generalize hHH : coH q s.n (coreN subs) (roomN cap) rr rb (coF q w sl) = H at hOW hYW hGf hHq
    obtain ⟨u0, hu0⟩ : ∃ u0 : CU, u0 = ⟨fun _ => (0, 0, 0), ⟨[], 0⟩, R⟩ := ⟨_, rfl⟩
    rw [← hu0] at hOW hGf
    obtain ⟨G0, hG0⟩ : ∃ G0 : Nat → Prop, G0 = fun c => c < sl.n ∧ H u0 c = none := ⟨_, rfl⟩
    have hI0 : LgI (cL (B := B) (coreN subs) (roomN cap) H) 0 (fun c => G0 c ∨ blk (.slice none 0 0) = some c) (u0, fun _ => []) [] sl := lgI_empty (fun c hc => hc.elim (fun h => by rw [hG0] at h; exact h.1) fun h => by cases h) fun c y hy => ⟨(hOW.w c y hy).1, fun hc => hc.elim (fun h => by rw [hG0] at h; rw [h.2] at hy; cases hy) fun h => by cases h⟩
    have hpT0 : pTs TH 0 = fun _ => [] := by funext t; unfold pTs; rw [if_neg (by omega)]
    have hT0 : PlT (cL (B := B) (coreN subs) (roomN cap) H) u0 (pTs TH 0) G0 sl none 0 0 sl := ⟨⟨[], by rw [hpT0]; exact hI0, Own.nil⟩, fun c y _ hx => hx, Nat.le_refl _, fun b hb => by cases hb⟩
    refine SemS.seqw fun _ => ?_
    simp -implicitDefEqProofs (disch := first | omega | (simp only [St.set_n, St.up_n, List.length_cons, List.length_nil]; omega)) only [go_sem, Nat.reduceAdd, Nat.reduceMul, Nat.reduceSub, Int.reduceAdd, Int.reduceMul, Int.reduceSub, Int.reduceNeg, Int.reduceToNat]
    refine SemS.seq (fun e s' => ∃ A k, PlG tv pv q.c s1.n s.n A TH.length k e ∧ PlT (cL (B := B) (coreN subs) (roomN cap) H) u0 (pTs TH TH.length) G0 sl A TH.length k s') ?_ ?_
    · refine SemS.seqw fun _ => ?_
      simp -implicitDefEqProofs (disch := first | omega | (simp only [St.set_n, St.up_n, List.length_cons, List.length_nil]; omega)) only [go_sem, Nat.reduceAdd, Nat.reduceMul, Nat.reduceSub, Int.reduceAdd, Int.reduceMul, Int.reduceSub, Int.reduceNeg, Int.reduceToNat]
      refine SemS.block (SemS.loop (fun m e s' => ∃ j A k, m = TH.length - j ∧ j ≤ TH.length ∧ PlG tv pv q.c s1.n s.n A j k e ∧ PlT (cL (B := B) (coreN subs) (roomN cap) H) u0 (pTs TH j) G0 sl A j k s') TH.length ?_ ?_)
      · exact ⟨0, none, 0, by omega, by omega, ⟨by simp -implicitDefEqProofs (disch := first | omega | (simp only [St.set_n, St.up_n, List.length_cons, List.length_nil]; omega)) only [go_sem, Nat.reduceAdd, Nat.reduceMul, Nat.reduceSub, Int.reduceAdd, Int.reduceMul, Int.reduceSub, Int.reduceNeg, Int.reduceToNat, q4], by simp -implicitDefEqProofs (disch := first | omega | (simp only [St.set_n, St.up_n, List.length_cons, List.length_nil]; omega)) only [go_sem, Nat.reduceAdd, Nat.reduceMul, Nat.reduceSub, Int.reduceAdd, Int.reduceMul, Int.reduceSub, Int.reduceNeg, Int.reduceToNat, q5], by simp -implicitDefEqProofs (disch := first | omega | (simp only [St.set_n, St.up_n, List.length_cons, List.length_nil]; omega)) only [go_sem, Nat.reduceAdd, Nat.reduceMul, Nat.reduceSub, Int.reduceAdd, Int.reduceMul, Int.reduceSub, Int.reduceNeg, Int.reduceToNat, q13], by simp -implicitDefEqProofs (disch := first | omega | (simp only [St.set_n, St.up_n, List.length_cons, List.length_nil]; omega)) only [go_sem, Nat.reduceAdd, Nat.reduceMul, Nat.reduceSub, Int.reduceAdd, Int.reduceMul, Int.reduceSub, Int.reduceNeg, Int.reduceToNat, q14], by simp -implicitDefEqProofs (disch := first | omega | (simp only [St.set_n, St.up_n, List.length_cons, List.length_nil]; omega)) only [go_sem, Nat.reduceAdd, Nat.reduceMul, Nat.reduceSub, Int.reduceAdd, Int.reduceMul, Int.reduceSub, Int.reduceNeg, Int.reduceToNat], by first | (simp -implicitDefEqProofs (disch := first | omega | (simp only [St.set_n, St.up_n, List.length_cons, List.length_nil]; omega)) only [go_sem, Nat.reduceAdd, Nat.reduceMul, Nat.reduceSub, Int.reduceAdd, Int.reduceMul, Int.reduceSub, Int.reduceNeg, Int.reduceToNat]; done) | (simp -implicitDefEqProofs (disch := first | omega | (simp only [St.set_n, St.up_n, List.length_cons, List.length_nil]; omega)) only [go_sem, Nat.reduceAdd, Nat.reduceMul, Nat.reduceSub, Int.reduceAdd, Int.reduceMul, Int.reduceSub, Int.reduceNeg, Int.reduceToNat]; rfl), by first | (simp -implicitDefEqProofs (disch := first | omega | (simp only [St.set_n, St.up_n, List.length_cons, List.length_nil]; omega)) only [go_sem, Nat.reduceAdd, Nat.reduceMul, Nat.reduceSub, Int.reduceAdd, Int.reduceMul, Int.reduceSub, Int.reduceNeg, Int.reduceToNat]; done) | (simp -implicitDefEqProofs (disch := first | omega | (simp only [St.set_n, St.up_n, List.length_cons, List.length_nil]; omega)) only [go_sem, Nat.reduceAdd, Nat.reduceMul, Nat.reduceSub, Int.reduceAdd, Int.reduceMul, Int.reduceSub, Int.reduceNeg, Int.reduceToNat]; rfl), by simp -implicitDefEqProofs (disch := first | omega | (simp only [St.set_n, St.up_n, List.length_cons, List.length_nil]; omega)) only [go_sem, Nat.reduceAdd, Nat.reduceMul, Nat.reduceSub, Int.reduceAdd, Int.reduceMul, Int.reduceSub, Int.reduceNeg, Int.reduceToNat, hd]⟩, hT0⟩
      rintro m e sb hwb ⟨j, A, k, hm, hj, ⟨q4, q5, q13, q14, q18, q19, q20, hd⟩, hT'⟩
      by_cases hlt : (j : Int) < TH.length
      · obtain ⟨L, hL⟩ : ∃ L, TH[j]? = some L := ⟨TH[j]'(by omega), List.getElem?_eq_getElem (by omega)⟩
        obtain ⟨bt, ot, capt, cst, et, ⟨vt, rfl, hvt⟩, hrt⟩ := hT.at hL
        obtain ⟨hbt, hct⟩ := hrt sb hwb
        refine SemS.seqw fun _ => ?_
        rw [et] at q4
        simp -implicitDefEqProofs (disch := first | omega | (simp only [St.set_n, St.up_n, List.length_cons, List.length_nil]; omega)) only [go_sem, Nat.reduceAdd, Nat.reduceMul, Nat.reduceSub, Int.reduceAdd, Int.reduceMul, Int.reduceSub, Int.reduceNeg, Int.reduceToNat, q4, q20, hlt]
        refine SemS.seqs ?_
        refine SemS.block ?_
        refine SemS.seqw fun _ => ?_
        simp -implicitDefEqProofs (disch := first | omega | (simp only [St.set_n, St.up_n, List.length_cons, List.length_nil]; omega)) only [go_sem, Nat.reduceAdd, Nat.reduceMul, Nat.reduceSub, Int.reduceAdd, Int.reduceMul, Int.reduceSub, Int.reduceNeg, Int.reduceToNat]
        have hj4 : j < 4 := by omega
        have g0 := hct 0 vt rfl
        simp only [Nat.mul_one, Nat.add_zero] at g0
        have hLl : L.length ≤ 10 := by
          have h1 := lens_take hL
          have h2 : lens (TH.take (j + 1)) ≤ lens TH := by
            have : lens TH = lens (TH.take (j + 1)) + lens (TH.drop (j + 1)) := by
              conv => lhs; rw [← List.take_append_drop (j + 1) TH]
              unfold lens
              rw [List.map_append, List.foldr_append]
              generalize (List.foldr (fun x1 x2 => x1 + x2) 0 (List.map List.length (List.drop (j + 1) TH))) = z
              generalize List.map List.length (List.take (j + 1) TH) = y
              induction y with
              | nil => simp
              | cons a y ih => simp only [List.foldr_cons]; omega
            omega
          omega
        refine SemS.seq (fun e s' => ∃ Al cl, PlG tv pv q.c s1.n s.n A j k e ∧ PlI Al L.length cl e ∧ PlO L sb Al L.length cl s') ?_ ?_
        · refine SemS.seqw fun _ => ?_
          simp -implicitDefEqProofs (disch := first | omega | (simp only [St.set_n, St.up_n, List.length_cons, List.length_nil]; omega)) only [go_sem, Nat.reduceAdd, Nat.reduceMul, Nat.reduceSub, Int.reduceAdd, Int.reduceMul, Int.reduceSub, Int.reduceNeg, Int.reduceToNat]
          refine SemS.block (SemS.loop (fun m e s' => ∃ i Al cl, m = L.length - i ∧ i ≤ L.length ∧ PlG tv pv q.c s1.n s.n A j k e ∧ PlI Al i cl e ∧ PlO L sb Al i cl s') L.length ?_ ?_)
          · exact ⟨0, none, 0, by omega, by omega, ⟨by first | (simp -implicitDefEqProofs (disch := first | omega | (simp only [St.set_n, St.up_n, List.length_cons, List.length_nil]; omega)) only [go_sem, Nat.reduceAdd, Nat.reduceMul, Nat.reduceSub, Int.reduceAdd, Int.reduceMul, Int.reduceSub, Int.reduceNeg, Int.reduceToNat, q4]; done) | (simp -implicitDefEqProofs (disch := first | omega | (simp only [St.set_n, St.up_n, List.length_cons, List.length_nil]; omega)) only [go_sem, Nat.reduceAdd, Nat.reduceMul, Nat.reduceSub, Int.reduceAdd, Int.reduceMul, Int.reduceSub, Int.reduceNeg, Int.reduceToNat, q4]; exact et.symm), by simp -implicitDefEqProofs (disch := first | omega | (simp only [St.set_n, St.up_n, List.length_cons, List.length_nil]; omega)) only [go_sem, Nat.reduceAdd, Nat.reduceMul, Nat.reduceSub, Int.reduceAdd, Int.reduceMul, Int.reduceSub, Int.reduceNeg, Int.reduceToNat, q5], by simp -implicitDefEqProofs (disch := first | omega | (simp only [St.set_n, St.up_n, List.length_cons, List.length_nil]; omega)) only [go_sem, Nat.reduceAdd, Nat.reduceMul, Nat.reduceSub, Int.reduceAdd, Int.reduceMul, Int.reduceSub, Int.reduceNeg, Int.reduceToNat, q13], by simp -implicitDefEqProofs (disch := first | omega | (simp only [St.set_n, St.up_n, List.length_cons, List.length_nil]; omega)) only [go_sem, Nat.reduceAdd, Nat.reduceMul, Nat.reduceSub, Int.reduceAdd, Int.reduceMul, Int.reduceSub, Int.reduceNeg, Int.reduceToNat, q14], by simp -implicitDefEqProofs (disch := first | omega | (simp only [St.set_n, St.up_n, List.length_cons, List.length_nil]; omega)) only [go_sem, Nat.reduceAdd, Nat.reduceMul, Nat.reduceSub, Int.reduceAdd, Int.reduceMul, Int.reduceSub, Int.reduceNeg, Int.reduceToNat, q18], by simp -implicitDefEqProofs (disch := first | omega | (simp only [St.set_n, St.up_n, List.length_cons, List.length_nil]; omega)) only [go_sem, Nat.reduceAdd, Nat.reduceMul, Nat.reduceSub, Int.reduceAdd, Int.reduceMul, Int.reduceSub, Int.reduceNeg, Int.reduceToNat, q19], by simp -implicitDefEqProofs (disch := first | omega | (simp only [St.set_n, St.up_n, List.length_cons, List.length_nil]; omega)) only [go_sem, Nat.reduceAdd, Nat.reduceMul, Nat.reduceSub, Int.reduceAdd, Int.reduceMul, Int.reduceSub, Int.reduceNeg, Int.reduceToNat, q20], by simp -implicitDefEqProofs (disch := first | omega | (simp only [St.set_n, St.up_n, List.length_cons, List.length_nil]; omega)) only [go_sem, Nat.reduceAdd, Nat.reduceMul, Nat.reduceSub, Int.reduceAdd, Int.reduceMul, Int.reduceSub, Int.reduceNeg, Int.reduceToNat, hd]⟩, ⟨by first | (simp -implicitDefEqProofs (disch := first | omega | (simp only [St.set_n, St.up_n, List.length_cons, List.length_nil]; omega)) only [go_sem, Nat.reduceAdd, Nat.reduceMul, Nat.reduceSub, Int.reduceAdd, Int.reduceMul, Int.reduceSub, Int.reduceNeg, Int.reduceToNat]; done) | (simp -implicitDefEqProofs (disch := first | omega | (simp only [St.set_n, St.up_n, List.length_cons, List.length_nil]; omega)) only [go_sem, Nat.reduceAdd, Nat.reduceMul, Nat.reduceSub, Int.reduceAdd, Int.reduceMul, Int.reduceSub, Int.reduceNeg, Int.reduceToNat]; rfl), by first | (simp -implicitDefEqProofs (disch := first | omega | (simp only [St.set_n, St.up_n, List.length_cons, List.length_nil]; omega)) only [go_sem, Nat.reduceAdd, Nat.reduceMul, Nat.reduceSub, Int.reduceAdd, Int.reduceMul, Int.reduceSub, Int.reduceNeg, Int.reduceToNat]; done) | (simp -implicitDefEqProofs (disch := first | omega | (simp only [St.set_n, St.up_n, List.length_cons, List.length_nil]; omega)) only [go_sem, Nat.reduceAdd, Nat.reduceMul, Nat.reduceSub, Int.reduceAdd, Int.reduceMul, Int.reduceSub, Int.reduceNeg, Int.reduceToNat]; rfl)⟩, ⟨Own.nil, fun c hc => rfl, Nat.le_refl _, fun b hb => by cases hb⟩⟩
          rintro m2 e2 s3 hw3 ⟨i, Al3, cl3, hm2, hi, ⟨y4, y5, y13, y14, y18, y19, y20, yd⟩, ⟨y21, y22⟩, hO⟩
          refine SemS.wp fun _ => ?_
          obtain ⟨_, hct3⟩ := hrt s3 hw3
          have z0 := hct3 0 vt rfl
          simp only [Nat.mul_one, Nat.add_zero] at z0
          rw [et] at y4
          have hvt' := hvt
          obtain ⟨a2, cap2, rfl, _⟩ := hvt'
          by_cases hlt2 : (i : Int) < L.length
          · obtain ⟨x, hx⟩ : ∃ x, L[i]? = some x := ⟨L[i]'(by omega), List.getElem?_eq_getElem (by omega)⟩
            obtain ⟨bo, oo, co, cso, eo, hRo, hro⟩ := hvt.at hx
            simp only [ROp] at hRo
            subst hRo
            cases eo
            obtain ⟨hbo, hco⟩ := hro s3 hw3
            have x0 := hco 0 (.int .i64 x.kind) rfl
            simp only [Nat.add_zero] at x0
            have x1 := hco 1 (.int .i64 x.sub) rfl
            by_cases hk5 : x.kind = 5
            · have hcx : (fOp (cop x)).toArray = #[.int .i64 5, .int .i64 x.sub, .string ⟨#[]⟩, .string ⟨#[]⟩, .bool false] := by unfold cop; rw [if_pos hk5]; rfl
              have hw4 := set_wf1 (y := .raw (.cells (fOp (cop x)).toArray 48 (0, 0))) hw3
              have hk4 : ∀ c, c < s3.n → ((s3.set s3.n (.raw (.cells (fOp (cop x)).toArray 48 (0, 0)))).up (s3.n + 1)).m c = s3.m c := fun c hc => by simp -implicitDefEqProofs (disch := first | omega | (simp only [St.set_n, St.up_n, List.length_cons, List.length_nil]; omega)) only [go_sem, Nat.reduceAdd, Nat.reduceMul, Nat.reduceSub, Int.reduceAdd, Int.reduceMul, Int.reduceSub, Int.reduceNeg, Int.reduceToNat]
              have hm4 : ((s3.set s3.n (.raw (.cells (fOp (cop x)).toArray 48 (0, 0)))).up (s3.n + 1)).m s3.n = some (.raw (.cells #[.int .i64 5, .int .i64 x.sub, .string ⟨#[]⟩, .string ⟨#[]⟩, .bool false] 48 (0, 0))) := by rw [← hcx]; simp -implicitDefEqProofs (disch := first | omega | (simp only [St.set_n, St.up_n, List.length_cons, List.length_nil]; omega)) only [go_sem, Nat.reduceAdd, Nat.reduceMul, Nat.reduceSub, Int.reduceAdd, Int.reduceMul, Int.reduceSub, Int.reduceNeg, Int.reduceToNat]
              have hn4 : ((s3.set s3.n (.raw (.cells (fOp (cop x)).toArray 48 (0, 0)))).up (s3.n + 1)).n = s3.n + 1 := rfl
              simp -implicitDefEqProofs (disch := first | omega | (simp only [St.set_n, St.up_n, List.length_cons, List.length_nil]; omega)) only [go_sem, Nat.reduceAdd, Nat.reduceMul, Nat.reduceSub, Int.reduceAdd, Int.reduceMul, Int.reduceSub, Int.reduceNeg, Int.reduceToNat, y4, y20, y21, y22, hlt, hlt2, z0, x0, x1, hk5]
              rw [← hcx]
              refine appE (s := (s3.set s3.n (.raw (.cells (fOp (cop x)).toArray 48 (0, 0)))).up (s3.n + 1)) hw4 (hO.o.keepR fun b o _ ho => by rw [hk4 b (hw3.2 _ _ ho).2]; exact ho) se46 kd46 zr48 rfl (by omega) (ys := fOp (cop x)) (ty := 48) rfl rfl (by omega) fun A5 C5 s5 hC5 o5 hk5' hb5 hn5 hw5 => ?_
              simp only [St.up_n] at hb5 hn5 hk5'
              have hOn := hO.n
              simp -implicitDefEqProofs (disch := first | omega | (simp only [St.set_n, St.up_n, List.length_cons, List.length_nil]; omega)) only [go_sem, Nat.reduceAdd, Nat.reduceMul, Nat.reduceSub, Int.reduceAdd, Int.reduceMul, Int.reduceSub, Int.reduceNeg, Int.reduceToNat, y22]
              refine ⟨L.length - (i + 1), by omega, _, To.refl _ _, i + 1, A5, C5, rfl, by omega, ⟨by first | (simp -implicitDefEqProofs (disch := first | omega | (simp only [St.set_n, St.up_n, List.length_cons, List.length_nil]; omega)) only [go_sem, Nat.reduceAdd, Nat.reduceMul, Nat.reduceSub, Int.reduceAdd, Int.reduceMul, Int.reduceSub, Int.reduceNeg, Int.reduceToNat, y4]; done) | (simp -implicitDefEqProofs (disch := first | omega | (simp only [St.set_n, St.up_n, List.length_cons, List.length_nil]; omega)) only [go_sem, Nat.reduceAdd, Nat.reduceMul, Nat.reduceSub, Int.reduceAdd, Int.reduceMul, Int.reduceSub, Int.reduceNeg, Int.reduceToNat, y4]; exact et.symm), by simp -implicitDefEqProofs (disch := first | omega | (simp only [St.set_n, St.up_n, List.length_cons, List.length_nil]; omega)) only [go_sem, Nat.reduceAdd, Nat.reduceMul, Nat.reduceSub, Int.reduceAdd, Int.reduceMul, Int.reduceSub, Int.reduceNeg, Int.reduceToNat, y5], by simp -implicitDefEqProofs (disch := first | omega | (simp only [St.set_n, St.up_n, List.length_cons, List.length_nil]; omega)) only [go_sem, Nat.reduceAdd, Nat.reduceMul, Nat.reduceSub, Int.reduceAdd, Int.reduceMul, Int.reduceSub, Int.reduceNeg, Int.reduceToNat, y13], by simp -implicitDefEqProofs (disch := first | omega | (simp only [St.set_n, St.up_n, List.length_cons, List.length_nil]; omega)) only [go_sem, Nat.reduceAdd, Nat.reduceMul, Nat.reduceSub, Int.reduceAdd, Int.reduceMul, Int.reduceSub, Int.reduceNeg, Int.reduceToNat, y14], by simp -implicitDefEqProofs (disch := first | omega | (simp only [St.set_n, St.up_n, List.length_cons, List.length_nil]; omega)) only [go_sem, Nat.reduceAdd, Nat.reduceMul, Nat.reduceSub, Int.reduceAdd, Int.reduceMul, Int.reduceSub, Int.reduceNeg, Int.reduceToNat, y18], by simp -implicitDefEqProofs (disch := first | omega | (simp only [St.set_n, St.up_n, List.length_cons, List.length_nil]; omega)) only [go_sem, Nat.reduceAdd, Nat.reduceMul, Nat.reduceSub, Int.reduceAdd, Int.reduceMul, Int.reduceSub, Int.reduceNeg, Int.reduceToNat, y19], by simp -implicitDefEqProofs (disch := first | omega | (simp only [St.set_n, St.up_n, List.length_cons, List.length_nil]; omega)) only [go_sem, Nat.reduceAdd, Nat.reduceMul, Nat.reduceSub, Int.reduceAdd, Int.reduceMul, Int.reduceSub, Int.reduceNeg, Int.reduceToNat, y20], by simp -implicitDefEqProofs (disch := first | omega | (simp only [St.set_n, St.up_n, List.length_cons, List.length_nil]; omega)) only [go_sem, Nat.reduceAdd, Nat.reduceMul, Nat.reduceSub, Int.reduceAdd, Int.reduceMul, Int.reduceSub, Int.reduceNeg, Int.reduceToNat, yd]⟩, ⟨by simp -implicitDefEqProofs (disch := first | omega | (simp only [St.set_n, St.up_n, List.length_cons, List.length_nil]; omega)) only [go_sem, Nat.reduceAdd, Nat.reduceMul, Nat.reduceSub, Int.reduceAdd, Int.reduceMul, Int.reduceSub, Int.reduceNeg, Int.reduceToNat], by simp -implicitDefEqProofs (disch := first | omega | (simp only [St.set_n, St.up_n, List.length_cons, List.length_nil]; omega)) only [go_sem, Nat.reduceAdd, Nat.reduceMul, Nat.reduceSub, Int.reduceAdd, Int.reduceMul, Int.reduceSub, Int.reduceNeg, Int.reduceToNat]; rfl⟩, ⟨?_, fun c hc => ?_, by omega, fun b hb => ?_⟩⟩
              · have e5 : flat fOp ((L.take (i + 1)).map cop) = flat fOp ((L.take i).map cop) ++ fOp (cop x) := by
                  rw [List.take_add_one, hx]
                  simp [flat]
                rw [e5]; exact o5
              · rw [hk5' c (by omega) fun e => by have := hO.hb c e; omega]
                exact (hk4 c (by omega)).trans (hO.m c hc)
              · rcases hb5 b hb with h | h
                · omega
                · exact hO.hb b h
            · have hcx : (fOp (cop x)).toArray = #[.int .i64 4, .int .i64 x.sub, .string ⟨#[]⟩, .string ⟨#[]⟩, .bool false] := by unfold cop; rw [if_neg hk5]; rfl
              have hw4 := set_wf1 (y := .raw (.cells (fOp (cop x)).toArray 48 (0, 0))) hw3
              have hk4 : ∀ c, c < s3.n → ((s3.set s3.n (.raw (.cells (fOp (cop x)).toArray 48 (0, 0)))).up (s3.n + 1)).m c = s3.m c := fun c hc => by simp -implicitDefEqProofs (disch := first | omega | (simp only [St.set_n, St.up_n, List.length_cons, List.length_nil]; omega)) only [go_sem, Nat.reduceAdd, Nat.reduceMul, Nat.reduceSub, Int.reduceAdd, Int.reduceMul, Int.reduceSub, Int.reduceNeg, Int.reduceToNat]
              have hm4 : ((s3.set s3.n (.raw (.cells (fOp (cop x)).toArray 48 (0, 0)))).up (s3.n + 1)).m s3.n = some (.raw (.cells #[.int .i64 4, .int .i64 x.sub, .string ⟨#[]⟩, .string ⟨#[]⟩, .bool false] 48 (0, 0))) := by rw [← hcx]; simp -implicitDefEqProofs (disch := first | omega | (simp only [St.set_n, St.up_n, List.length_cons, List.length_nil]; omega)) only [go_sem, Nat.reduceAdd, Nat.reduceMul, Nat.reduceSub, Int.reduceAdd, Int.reduceMul, Int.reduceSub, Int.reduceNeg, Int.reduceToNat]
              have hn4 : ((s3.set s3.n (.raw (.cells (fOp (cop x)).toArray 48 (0, 0)))).up (s3.n + 1)).n = s3.n + 1 := rfl
              simp -implicitDefEqProofs (disch := first | omega | (simp only [St.set_n, St.up_n, List.length_cons, List.length_nil]; omega)) only [go_sem, Nat.reduceAdd, Nat.reduceMul, Nat.reduceSub, Int.reduceAdd, Int.reduceMul, Int.reduceSub, Int.reduceNeg, Int.reduceToNat, y4, y20, y21, y22, hlt, hlt2, z0, x0, x1, hk5]
              rw [← hcx]
              refine appE (s := (s3.set s3.n (.raw (.cells (fOp (cop x)).toArray 48 (0, 0)))).up (s3.n + 1)) hw4 (hO.o.keepR fun b o _ ho => by rw [hk4 b (hw3.2 _ _ ho).2]; exact ho) se46 kd46 zr48 rfl (by omega) (ys := fOp (cop x)) (ty := 48) rfl rfl (by omega) fun A5 C5 s5 hC5 o5 hk5' hb5 hn5 hw5 => ?_
              simp only [St.up_n] at hb5 hn5 hk5'
              have hOn := hO.n
              simp -implicitDefEqProofs (disch := first | omega | (simp only [St.set_n, St.up_n, List.length_cons, List.length_nil]; omega)) only [go_sem, Nat.reduceAdd, Nat.reduceMul, Nat.reduceSub, Int.reduceAdd, Int.reduceMul, Int.reduceSub, Int.reduceNeg, Int.reduceToNat, y22]
              refine ⟨L.length - (i + 1), by omega, _, To.refl _ _, i + 1, A5, C5, rfl, by omega, ⟨by first | (simp -implicitDefEqProofs (disch := first | omega | (simp only [St.set_n, St.up_n, List.length_cons, List.length_nil]; omega)) only [go_sem, Nat.reduceAdd, Nat.reduceMul, Nat.reduceSub, Int.reduceAdd, Int.reduceMul, Int.reduceSub, Int.reduceNeg, Int.reduceToNat, y4]; done) | (simp -implicitDefEqProofs (disch := first | omega | (simp only [St.set_n, St.up_n, List.length_cons, List.length_nil]; omega)) only [go_sem, Nat.reduceAdd, Nat.reduceMul, Nat.reduceSub, Int.reduceAdd, Int.reduceMul, Int.reduceSub, Int.reduceNeg, Int.reduceToNat, y4]; exact et.symm), by simp -implicitDefEqProofs (disch := first | omega | (simp only [St.set_n, St.up_n, List.length_cons, List.length_nil]; omega)) only [go_sem, Nat.reduceAdd, Nat.reduceMul, Nat.reduceSub, Int.reduceAdd, Int.reduceMul, Int.reduceSub, Int.reduceNeg, Int.reduceToNat, y5], by simp -implicitDefEqProofs (disch := first | omega | (simp only [St.set_n, St.up_n, List.length_cons, List.length_nil]; omega)) only [go_sem, Nat.reduceAdd, Nat.reduceMul, Nat.reduceSub, Int.reduceAdd, Int.reduceMul, Int.reduceSub, Int.reduceNeg, Int.reduceToNat, y13], by simp -implicitDefEqProofs (disch := first | omega | (simp only [St.set_n, St.up_n, List.length_cons, List.length_nil]; omega)) only [go_sem, Nat.reduceAdd, Nat.reduceMul, Nat.reduceSub, Int.reduceAdd, Int.reduceMul, Int.reduceSub, Int.reduceNeg, Int.reduceToNat, y14], by simp -implicitDefEqProofs (disch := first | omega | (simp only [St.set_n, St.up_n, List.length_cons, List.length_nil]; omega)) only [go_sem, Nat.reduceAdd, Nat.reduceMul, Nat.reduceSub, Int.reduceAdd, Int.reduceMul, Int.reduceSub, Int.reduceNeg, Int.reduceToNat, y18], by simp -implicitDefEqProofs (disch := first | omega | (simp only [St.set_n, St.up_n, List.length_cons, List.length_nil]; omega)) only [go_sem, Nat.reduceAdd, Nat.reduceMul, Nat.reduceSub, Int.reduceAdd, Int.reduceMul, Int.reduceSub, Int.reduceNeg, Int.reduceToNat, y19], by simp -implicitDefEqProofs (disch := first | omega | (simp only [St.set_n, St.up_n, List.length_cons, List.length_nil]; omega)) only [go_sem, Nat.reduceAdd, Nat.reduceMul, Nat.reduceSub, Int.reduceAdd, Int.reduceMul, Int.reduceSub, Int.reduceNeg, Int.reduceToNat, y20], by simp -implicitDefEqProofs (disch := first | omega | (simp only [St.set_n, St.up_n, List.length_cons, List.length_nil]; omega)) only [go_sem, Nat.reduceAdd, Nat.reduceMul, Nat.reduceSub, Int.reduceAdd, Int.reduceMul, Int.reduceSub, Int.reduceNeg, Int.reduceToNat, yd]⟩, ⟨by simp -implicitDefEqProofs (disch := first | omega | (simp only [St.set_n, St.up_n, List.length_cons, List.length_nil]; omega)) only [go_sem, Nat.reduceAdd, Nat.reduceMul, Nat.reduceSub, Int.reduceAdd, Int.reduceMul, Int.reduceSub, Int.reduceNeg, Int.reduceToNat], by simp -implicitDefEqProofs (disch := first | omega | (simp only [St.set_n, St.up_n, List.length_cons, List.length_nil]; omega)) only [go_sem, Nat.reduceAdd, Nat.reduceMul, Nat.reduceSub, Int.reduceAdd, Int.reduceMul, Int.reduceSub, Int.reduceNeg, Int.reduceToNat]; rfl⟩, ⟨?_, fun c hc => ?_, by omega, fun b hb => ?_⟩⟩
              · have e5 : flat fOp ((L.take (i + 1)).map cop) = flat fOp ((L.take i).map cop) ++ fOp (cop x) := by
                  rw [List.take_add_one, hx]
                  simp [flat]
                rw [e5]; exact o5
              · rw [hk5' c (by omega) fun e => by have := hO.hb c e; omega]
                exact (hk4 c (by omega)).trans (hO.m c hc)
              · rcases hb5 b hb with h | h
                · omega
                · exact hO.hb b h
          · have hi' : i = L.length := by omega
            subst hi'
            simp -implicitDefEqProofs (disch := first | omega | (simp only [St.set_n, St.up_n, List.length_cons, List.length_nil]; omega)) only [go_sem, Nat.reduceAdd, Nat.reduceMul, Nat.reduceSub, Int.reduceAdd, Int.reduceMul, Int.reduceSub, Int.reduceNeg, Int.reduceToNat, y4, y20, y21, y22, hlt, hlt2, z0]
            exact ⟨_, To.refl _ _, Al3, cl3, ⟨by first | (simp -implicitDefEqProofs (disch := first | omega | (simp only [St.set_n, St.up_n, List.length_cons, List.length_nil]; omega)) only [go_sem, Nat.reduceAdd, Nat.reduceMul, Nat.reduceSub, Int.reduceAdd, Int.reduceMul, Int.reduceSub, Int.reduceNeg, Int.reduceToNat, y4]; done) | (simp -implicitDefEqProofs (disch := first | omega | (simp only [St.set_n, St.up_n, List.length_cons, List.length_nil]; omega)) only [go_sem, Nat.reduceAdd, Nat.reduceMul, Nat.reduceSub, Int.reduceAdd, Int.reduceMul, Int.reduceSub, Int.reduceNeg, Int.reduceToNat, y4]; exact et.symm), by simp -implicitDefEqProofs (disch := first | omega | (simp only [St.set_n, St.up_n, List.length_cons, List.length_nil]; omega)) only [go_sem, Nat.reduceAdd, Nat.reduceMul, Nat.reduceSub, Int.reduceAdd, Int.reduceMul, Int.reduceSub, Int.reduceNeg, Int.reduceToNat, y5], by simp -implicitDefEqProofs (disch := first | omega | (simp only [St.set_n, St.up_n, List.length_cons, List.length_nil]; omega)) only [go_sem, Nat.reduceAdd, Nat.reduceMul, Nat.reduceSub, Int.reduceAdd, Int.reduceMul, Int.reduceSub, Int.reduceNeg, Int.reduceToNat, y13], by simp -implicitDefEqProofs (disch := first | omega | (simp only [St.set_n, St.up_n, List.length_cons, List.length_nil]; omega)) only [go_sem, Nat.reduceAdd, Nat.reduceMul, Nat.reduceSub, Int.reduceAdd, Int.reduceMul, Int.reduceSub, Int.reduceNeg, Int.reduceToNat, y14], by simp -implicitDefEqProofs (disch := first | omega | (simp only [St.set_n, St.up_n, List.length_cons, List.length_nil]; omega)) only [go_sem, Nat.reduceAdd, Nat.reduceMul, Nat.reduceSub, Int.reduceAdd, Int.reduceMul, Int.reduceSub, Int.reduceNeg, Int.reduceToNat, y18], by simp -implicitDefEqProofs (disch := first | omega | (simp only [St.set_n, St.up_n, List.length_cons, List.length_nil]; omega)) only [go_sem, Nat.reduceAdd, Nat.reduceMul, Nat.reduceSub, Int.reduceAdd, Int.reduceMul, Int.reduceSub, Int.reduceNeg, Int.reduceToNat, y19], by simp -implicitDefEqProofs (disch := first | omega | (simp only [St.set_n, St.up_n, List.length_cons, List.length_nil]; omega)) only [go_sem, Nat.reduceAdd, Nat.reduceMul, Nat.reduceSub, Int.reduceAdd, Int.reduceMul, Int.reduceSub, Int.reduceNeg, Int.reduceToNat, y20], by simp -implicitDefEqProofs (disch := first | omega | (simp only [St.set_n, St.up_n, List.length_cons, List.length_nil]; omega)) only [go_sem, Nat.reduceAdd, Nat.reduceMul, Nat.reduceSub, Int.reduceAdd, Int.reduceMul, Int.reduceSub, Int.reduceNeg, Int.reduceToNat, yd]⟩, ⟨by simp -implicitDefEqProofs (disch := first | omega | (simp only [St.set_n, St.up_n, List.length_cons, List.length_nil]; omega)) only [go_sem, Nat.reduceAdd, Nat.reduceMul, Nat.reduceSub, Int.reduceAdd, Int.reduceMul, Int.reduceSub, Int.reduceNeg, Int.reduceToNat, y21], by simp -implicitDefEqProofs (disch := first | omega | (simp only [St.set_n, St.up_n, List.length_cons, List.length_nil]; omega)) only [go_sem, Nat.reduceAdd, Nat.reduceMul, Nat.reduceSub, Int.reduceAdd, Int.reduceMul, Int.reduceSub, Int.reduceNeg, Int.reduceToNat, y22]⟩, hO⟩
        · rintro e2 s3 hw3 ⟨Al3, cl3, ⟨y4, y5, y13, y14, y18, y19, y20, yd⟩, ⟨y21, y22⟩, hO⟩
          obtain ⟨vs, hI, hOw⟩ := hT'.i
          obtain ⟨G', hG', hE, hfin⟩ := hI.fork hwb hO.m hO.n hw3
          have hops : OpsV (cL (B := B) (coreN subs) (roomN cap) H) (grow noH sb s3) (.slice Al3 L.length cl3) (L.map cop) := by
            refine opsV_own ?_ hO.hb
            have := hO.o
            rw [List.take_length] at this
            rw [List.length_map]; exact this
          refine SemS.wp fun _ => ?_
          simp -implicitDefEqProofs (disch := first | omega | (simp only [St.set_n, St.up_n, List.length_cons, List.length_nil]; omega)) only [go_sem, Nat.reduceAdd, Nat.reduceMul, Nat.reduceSub, Int.reduceAdd, Int.reduceMul, Int.reduceSub, Int.reduceNeg, Int.reduceToNat, y13, y18, y19, y20, y21]
          refine callF_of (thread_of hYW (t := j) (by omega) (L.map cop) _ G' u0 s3 _ _ hops hE fun v s4 ha hw4 => ?_)
          have hI4 := hfin _ _ _ _ ha
          rw [pTs_succ hL] at hI4
          have hvS := hI4.stepV (v := v) (by simp)
          have hTn := hT'.n
          have hOn := hO.n
          have han := ha.n
          simp -implicitDefEqProofs (disch := first | omega | (simp only [St.set_n, St.up_n, List.length_cons, List.length_nil]; omega)) only [go_sem, Nat.reduceAdd, Nat.reduceMul, Nat.reduceSub, Int.reduceAdd, Int.reduceMul, Int.reduceSub, Int.reduceNeg, Int.reduceToNat, hvS.one.1, hvS.one.2]
          refine appE hw4 (hOw.keepR fun b o hb ho => ha.keep b _ (hG' _ (.inr hb)) (by rw [hO.m b (hwb.2 _ _ ho).2]; exact ho)) se45 kd45 zr50 rfl (by omega) (ys := [v]) rfl (by simp [hvS.one.2]) (by omega) fun A' C' s8 hC' o8 heq hb8 hn8 hw8 => ?_
          have hI8 := hI4.inv_app (P := G0) (w := .slice A j k) (w' := .slice A' (j + 1) C') hw4 heq hb8 hn8 fun b' hb' => by
            obtain ⟨o, ho⟩ := o8.at_ hb'
            exact (hw8.2 _ _ ho).2
          simp -implicitDefEqProofs (disch := first | omega | (simp only [St.set_n, St.up_n, List.length_cons, List.length_nil]; omega)) only [go_sem, Nat.reduceAdd, Nat.reduceMul, Nat.reduceSub, Int.reduceAdd, Int.reduceMul, Int.reduceSub, Int.reduceNeg, Int.reduceToNat, y20]
          refine SemS.wp fun _ => ?_
          simp -implicitDefEqProofs (disch := first | omega | (simp only [St.set_n, St.up_n, List.length_cons, List.length_nil]; omega)) only [go_sem, Nat.reduceAdd, Nat.reduceMul, Nat.reduceSub, Int.reduceAdd, Int.reduceMul, Int.reduceSub, Int.reduceNeg, Int.reduceToNat, y20]
          refine ⟨TH.length - (j + 1), by omega, _, To.refl _ _, j + 1, A', C', rfl, by omega, ⟨by first | (simp -implicitDefEqProofs (disch := first | omega | (simp only [St.set_n, St.up_n, List.length_cons, List.length_nil]; omega)) only [go_sem, Nat.reduceAdd, Nat.reduceMul, Nat.reduceSub, Int.reduceAdd, Int.reduceMul, Int.reduceSub, Int.reduceNeg, Int.reduceToNat, y4]; done) | (simp -implicitDefEqProofs (disch := first | omega | (simp only [St.set_n, St.up_n, List.length_cons, List.length_nil]; omega)) only [go_sem, Nat.reduceAdd, Nat.reduceMul, Nat.reduceSub, Int.reduceAdd, Int.reduceMul, Int.reduceSub, Int.reduceNeg, Int.reduceToNat, y4]; exact et.symm), by simp -implicitDefEqProofs (disch := first | omega | (simp only [St.set_n, St.up_n, List.length_cons, List.length_nil]; omega)) only [go_sem, Nat.reduceAdd, Nat.reduceMul, Nat.reduceSub, Int.reduceAdd, Int.reduceMul, Int.reduceSub, Int.reduceNeg, Int.reduceToNat, y5], by simp -implicitDefEqProofs (disch := first | omega | (simp only [St.set_n, St.up_n, List.length_cons, List.length_nil]; omega)) only [go_sem, Nat.reduceAdd, Nat.reduceMul, Nat.reduceSub, Int.reduceAdd, Int.reduceMul, Int.reduceSub, Int.reduceNeg, Int.reduceToNat, y13], by simp -implicitDefEqProofs (disch := first | omega | (simp only [St.set_n, St.up_n, List.length_cons, List.length_nil]; omega)) only [go_sem, Nat.reduceAdd, Nat.reduceMul, Nat.reduceSub, Int.reduceAdd, Int.reduceMul, Int.reduceSub, Int.reduceNeg, Int.reduceToNat, y14], by simp -implicitDefEqProofs (disch := first | omega | (simp only [St.set_n, St.up_n, List.length_cons, List.length_nil]; omega)) only [go_sem, Nat.reduceAdd, Nat.reduceMul, Nat.reduceSub, Int.reduceAdd, Int.reduceMul, Int.reduceSub, Int.reduceNeg, Int.reduceToNat, y18], by simp -implicitDefEqProofs (disch := first | omega | (simp only [St.set_n, St.up_n, List.length_cons, List.length_nil]; omega)) only [go_sem, Nat.reduceAdd, Nat.reduceMul, Nat.reduceSub, Int.reduceAdd, Int.reduceMul, Int.reduceSub, Int.reduceNeg, Int.reduceToNat], by simp -implicitDefEqProofs (disch := first | omega | (simp only [St.set_n, St.up_n, List.length_cons, List.length_nil]; omega)) only [go_sem, Nat.reduceAdd, Nat.reduceMul, Nat.reduceSub, Int.reduceAdd, Int.reduceMul, Int.reduceSub, Int.reduceNeg, Int.reduceToNat]; rfl, by simp -implicitDefEqProofs (disch := first | omega | (simp only [St.set_n, St.up_n, List.length_cons, List.length_nil]; omega)) only [go_sem, Nat.reduceAdd, Nat.reduceMul, Nat.reduceSub, Int.reduceAdd, Int.reduceMul, Int.reduceSub, Int.reduceNeg, Int.reduceToNat, yd]⟩, ⟨⟨_, hI8, o8⟩, fun c y hc hx => ?_, by omega, fun b hb => ?_⟩⟩
          · have h1 := hT'.keep c y hc hx
            have h2 : s3.m c = some y := by rw [hO.m c (hwb.2 _ _ h1).2]; exact h1
            have h3 := ha.keep c y (hG' _ (.inl hc)) h2
            rw [heq c (hw4.2 _ _ h3).2 fun e => by
              have h4 := hT'.hb c e
              rw [hG0] at hc
              have := hc.1
              omega]
            exact h3
          · rcases hb8 b hb with h | h
            · omega
            · exact hT'.hb b h
      · have hj' : j = TH.length := by omega
        subst hj'
        refine SemS.wp fun _ => ?_
        rw [evt] at q4
        simp -implicitDefEqProofs (disch := first | omega | (simp only [St.set_n, St.up_n, List.length_cons, List.length_nil]; omega)) only [go_sem, Nat.reduceAdd, Nat.reduceMul, Nat.reduceSub, Int.reduceAdd, Int.reduceMul, Int.reduceSub, Int.reduceNeg, Int.reduceToNat, q4, q20, hlt]
        exact ⟨_, To.refl _ _, A, k, ⟨by first | (simp -implicitDefEqProofs (disch := first | omega | (simp only [St.set_n, St.up_n, List.length_cons, List.length_nil]; omega)) only [go_sem, Nat.reduceAdd, Nat.reduceMul, Nat.reduceSub, Int.reduceAdd, Int.reduceMul, Int.reduceSub, Int.reduceNeg, Int.reduceToNat, q4]; done) | (simp -implicitDefEqProofs (disch := first | omega | (simp only [St.set_n, St.up_n, List.length_cons, List.length_nil]; omega)) only [go_sem, Nat.reduceAdd, Nat.reduceMul, Nat.reduceSub, Int.reduceAdd, Int.reduceMul, Int.reduceSub, Int.reduceNeg, Int.reduceToNat, q4]; exact evt.symm), by simp -implicitDefEqProofs (disch := first | omega | (simp only [St.set_n, St.up_n, List.length_cons, List.length_nil]; omega)) only [go_sem, Nat.reduceAdd, Nat.reduceMul, Nat.reduceSub, Int.reduceAdd, Int.reduceMul, Int.reduceSub, Int.reduceNeg, Int.reduceToNat, q5], by simp -implicitDefEqProofs (disch := first | omega | (simp only [St.set_n, St.up_n, List.length_cons, List.length_nil]; omega)) only [go_sem, Nat.reduceAdd, Nat.reduceMul, Nat.reduceSub, Int.reduceAdd, Int.reduceMul, Int.reduceSub, Int.reduceNeg, Int.reduceToNat, q13], by simp -implicitDefEqProofs (disch := first | omega | (simp only [St.set_n, St.up_n, List.length_cons, List.length_nil]; omega)) only [go_sem, Nat.reduceAdd, Nat.reduceMul, Nat.reduceSub, Int.reduceAdd, Int.reduceMul, Int.reduceSub, Int.reduceNeg, Int.reduceToNat, q14], by simp -implicitDefEqProofs (disch := first | omega | (simp only [St.set_n, St.up_n, List.length_cons, List.length_nil]; omega)) only [go_sem, Nat.reduceAdd, Nat.reduceMul, Nat.reduceSub, Int.reduceAdd, Int.reduceMul, Int.reduceSub, Int.reduceNeg, Int.reduceToNat, q18], by simp -implicitDefEqProofs (disch := first | omega | (simp only [St.set_n, St.up_n, List.length_cons, List.length_nil]; omega)) only [go_sem, Nat.reduceAdd, Nat.reduceMul, Nat.reduceSub, Int.reduceAdd, Int.reduceMul, Int.reduceSub, Int.reduceNeg, Int.reduceToNat, q19], by simp -implicitDefEqProofs (disch := first | omega | (simp only [St.set_n, St.up_n, List.length_cons, List.length_nil]; omega)) only [go_sem, Nat.reduceAdd, Nat.reduceMul, Nat.reduceSub, Int.reduceAdd, Int.reduceMul, Int.reduceSub, Int.reduceNeg, Int.reduceToNat, q20], by simp -implicitDefEqProofs (disch := first | omega | (simp only [St.set_n, St.up_n, List.length_cons, List.length_nil]; omega)) only [go_sem, Nat.reduceAdd, Nat.reduceMul, Nat.reduceSub, Int.reduceAdd, Int.reduceMul, Int.reduceSub, Int.reduceNeg, Int.reduceToNat, hd]⟩, hT'⟩
    · rintro e sb hwb ⟨A, k, ⟨q4, q5, q13, q14, q18, q19, q20, hd⟩, hT'⟩
      obtain ⟨vs, hI, hOw⟩ := hT'.i
      have hvl : vs.length = TH.length := hI.len
      obtain ⟨R9, hR9⟩ : ∃ R9, Sys.loopA (Y := polS B (coreN subs) (roomN cap) TH.length 40 10 (xsOf (coreN subs) u0.rg) H) 70000 (Sys.picksA ⟨(u0, pTs TH TH.length), [], 0⟩ picks) = R9 := ⟨_, rfl⟩
      obtain ⟨p0, p1, p2, p3, p4, p5, p6, p7⟩ := pol_run (B := B) (H := H) (nr := coreN subs) (rn := roomN cap) (n := TH.length) (u := u0) (ops := fun t => (TH.getD t []).map cop) (picks := picks) h8 (by rw [hu0]) (fun i => by rw [hu0]) (fun t ht op hop => by
        obtain ⟨o, _, rfl⟩ := List.mem_map.1 hop
        exact cop_kind o) (by rw [sum_lens TH.length (Nat.le_refl _), List.take_length]; omega) (fun i => by rw [hu0]; exact hP.G i) (fun i hi => by rw [hu0]; exact hP.rl i hi) (T := pTs TH TH.length) (fun t ht => by unfold pTs; rw [if_pos ht]) hR9
      refine SemS.seqw fun _ => ?_
      simp -implicitDefEqProofs (disch := first | omega | (simp only [St.set_n, St.up_n, List.length_cons, List.length_nil]; omega)) only [go_sem, Nat.reduceAdd, Nat.reduceMul, Nat.reduceSub, Int.reduceAdd, Int.reduceMul, Int.reduceSub, Int.reduceNeg, Int.reduceToNat, q5, q19]
      refine callF_wf (m_run (Y := polS B (coreN subs) (roomN cap) TH.length 40 10 (xsOf (coreN subs) u0.rg) H) ⟨hI, p0⟩ (show TH.length ≤ 1000 by omega) (by omega) ⟨⟨A, k, by rw [hvl]⟩, by rw [hvl]; exact hOw.fc⟩ (fun s' hs' => by rw [hvl]; exact (hOw.keepR fun b' o hb' ho => by rw [hs' b' (hwb.2 _ _ ho).2]; exact ho).fc) hp hR9 fun mv vs' s6 om hI6 hn6 hk6 hw6 => ?_)
      rw [p1]
      obtain ⟨Am, cm9, rfl, _⟩ := om.is
      have hG6 : ∀ c y, G0 c → sl.m c = some y → s6.m c = some y := fun c y hc hx => hk6 c y (.inl hc) (hT'.keep c y hc hx)
      have hlg := LgI.at (H := H) hI6.1 (hYW.log _)
      have hgr := LgI.at (H := H) hI6.1 (hYW.gr _)
      have hlk := LgI.at (H := H) hI6.1 (hYW.lk _)
      obtain ⟨pq, ro, a0, a1, a2, a3, hcq⟩ := hCl.core
      have hcc := LgI.at (H := H) hI6.1 ((hHq _).1.trans hcq)
      have hep := LgI.at (H := H) hI6.1 ((hHq _).2.trans hCl.ep)
      generalize R9.1.x.1 = U at p2 p3 p4 p5 p6 p7 hlg hgr hlk hcc hep
      clear hI6 hk6 p0 hR9
      generalize R9.1.mv.length = mvl
      generalize R9.1.ca = mca
      have hk7 : ∀ c y, s6.m c = some y → ((s6.set s6.n (.raw (.cells #[.slice Am mvl cm9, .int .i64 mca, .int .i64 0] 54 (0, 0)))).up (s6.n + 1)).m c = some y := fun c y hx => by
        have := (hw6.2 _ _ hx).2
        simp -implicitDefEqProofs (disch := first | omega | (simp only [St.set_n, St.up_n, List.length_cons, List.length_nil]; omega)) only [go_sem, Nat.reduceAdd, Nat.reduceMul, Nat.reduceSub, Int.reduceAdd, Int.reduceMul, Int.reduceSub, Int.reduceNeg, Int.reduceToNat, hx]
      have hm7 : ((s6.set s6.n (.raw (.cells #[.slice Am mvl cm9, .int .i64 mca, .int .i64 0] 54 (0, 0)))).up (s6.n + 1)).m s6.n = some (.raw (.cells #[.slice Am mvl cm9, .int .i64 mca, .int .i64 0] 54 (0, 0))) := by simp -implicitDefEqProofs (disch := first | omega | (simp only [St.set_n, St.up_n, List.length_cons, List.length_nil]; omega)) only [go_sem, Nat.reduceAdd, Nat.reduceMul, Nat.reduceSub, Int.reduceAdd, Int.reduceMul, Int.reduceSub, Int.reduceNeg, Int.reduceToNat]
      have hw7 := set_wf1 (y := .raw (.cells #[.slice Am mvl cm9, .int .i64 mca, .int .i64 0] 54 (0, 0))) hw6
      simp -implicitDefEqProofs (disch := first | omega | (simp only [St.set_n, St.up_n, List.length_cons, List.length_nil]; omega)) only [go_sem, Nat.reduceAdd, Nat.reduceMul, Nat.reduceSub, Int.reduceAdd, Int.reduceMul, Int.reduceSub, Int.reduceNeg, Int.reduceToNat]
      generalize (s6.set s6.n (.raw (.cells #[.slice Am mvl cm9, .int .i64 mca, .int .i64 0] 54 (0, 0)))).up (s6.n + 1) = s7 at hk7 hm7 hw7 ⊢
      refine SemS.seqw fun _ => ?_
      simp -implicitDefEqProofs (disch := first | omega | (simp only [St.set_n, St.up_n, List.length_cons, List.length_nil]; omega)) only [go_sem, Nat.reduceAdd, Nat.reduceMul, Nat.reduceSub, Int.reduceAdd, Int.reduceMul, Int.reduceSub, Int.reduceNeg, Int.reduceToNat, q18]
      refine callF_wf (log_calls (S := U.log) (hk7 _ _ hlg) (by omega) fun vc s8 ov hk8 hn8 hb8 hw8 => ?_)
      have hal : (!(U.log.l.any fun c => decide (c.to = 0))) = true := by
        rw [Bool.not_eq_true', List.any_eq_false]
        intro c hc
        obtain ⟨j, hj⟩ := List.getElem?_of_mem hc
        have := p4 j c hj
        simpa using this
      rw [hal]
      obtain ⟨Ac, cc, rfl, _⟩ := ov.is
      have h68 : ∀ c y, s6.m c = some y → s8.m c = some y := fun c y hx => (hk8 c y (hk7 c y hx)).1
      have x24 := (hk8 _ _ hm7).1
      have hkf : ∀ c cs ty, sl.m c = some (.raw (.cells cs ty (0, 0))) → ty ≠ 168 → ty ≠ 149 → ty ≠ 151 → ty ≠ 87 → ty ≠ 138 → ty ≠ 100 → s8.m c = some (.raw (.cells cs ty (0, 0))) := fun c cs ty hc t1 t2 t3 t4 t5 t6 => h68 _ _ (hG6 c _ (by rw [hG0]; exact hGf hc t1 t2 t3 t4 t5 t6) hc)
      have x14 := hkf _ _ _ (hkl _ _ hbf) (by decide) (by decide) (by decide) (by decide) (by decide) (by decide)
      have hS8 : StOk (coreN subs) s8 (fillX (coreN subs) (roomN cap) W M M.length) (.slice Al (coreN subs) Cl) (.slice Aq (coreN subs) Cq) (.slice Ad (coreN subs) Cd) ws1 := by
        have hSl := hS.keep (s' := sl) fun c o ho => hkl c _ ho
        exact ⟨hSl.ol.keepT fun c cs hc => hkf c cs _ hc (by decide) (by decide) (by decide) (by decide) (by decide) (by decide), hSl.oq.keepT fun c cs hc => hkf c cs _ hc (by decide) (by decide) (by decide) (by decide) (by decide) (by decide), hSl.od.keepT fun c cs hc => hkf c cs _ hc (by decide) (by decide) (by decide) (by decide) (by decide) (by decide), hSl.lw, hSl.lq, hSl.ld, fun i w q h1 h2 => (hSl.hw i w q h1 h2).keepT fun c cs hc => hkf c cs _ hc (by decide) (by decide) (by decide) (by decide) (by decide) (by decide), hSl.sm, hSl.dd⟩
      simp -implicitDefEqProofs (disch := first | omega | (simp only [St.set_n, St.up_n, List.length_cons, List.length_nil]; omega)) only [go_sem, Nat.reduceAdd, Nat.reduceMul, Nat.reduceSub, Int.reduceAdd, Int.reduceMul, Int.reduceSub, Int.reduceNeg, Int.reduceToNat]
      refine SemS.wp fun _ => ?_
      have hX : xsOf (coreN subs) u0.rg = fillX (coreN subs) (roomN cap) W M M.length := by rw [hu0]; exact hP.x
      rw [hX] at p7
      simp -implicitDefEqProofs (disch := first | omega | (simp only [St.set_n, St.up_n, List.length_cons, List.length_nil]; omega)) only [go_sem, Nat.reduceAdd, Nat.reduceMul, Nat.reduceSub, Int.reduceAdd, Int.reduceMul, Int.reduceSub, Int.reduceNeg, Int.reduceToNat, q13, q14, x24, x14]
      have e6 : (.agg #[.slice Al (coreN subs) Cl, .int .i64 (roomN cap), .slice Aq (coreN subs) Cq, .slice Ad (coreN subs) Cd, .slice none 0 0, .slice none 0 0, .slice none 0 0, .int .i64 0] : Value) = stV (roomN cap) (.slice Al (coreN subs) Cl) (.slice Aq (coreN subs) Cq) (.slice Ad (coreN subs) Cd) := rfl
      rw [e6]
      refine callF_wf (exp_of (fctx (rm := roomN cap) h8 hr16.2 p5 p6) ⟨hS8.lq, hS8.ld, fun x hx => (hS8.dd x hx).1⟩ hS8 ov p3 p7 fun s9 hk9 hw9 _ => ?_)
      have hQ : CorQ q.c q.e q.g q.b U.l s9 := by
        refine ⟨⟨_, _, _, _, _, _, _, hk9.2 _ _ (h68 _ _ hcc) (notS_cells (by decide) (by decide) (by decide))⟩, hk9.2 _ _ (h68 _ _ hep) fun cs => ⟨fun e => (by cases e), fun e => (by cases e), fun e => (by cases e)⟩, hk9.2 _ _ (h68 _ _ hgr) (notS_cells (by decide) (by decide) (by decide)), hk9.2 _ _ (h68 _ _ hlk) (notS_cells (by decide) (by decide) (by decide)), p2⟩
      simp -implicitDefEqProofs (disch := first | omega | (simp only [St.set_n, St.up_n, List.length_cons, List.length_nil]; omega)) only [go_sem, Nat.reduceAdd, Nat.reduceMul, Nat.reduceSub, Int.reduceAdd, Int.reduceMul, Int.reduceSub, Int.reduceNeg, Int.reduceToNat, q13]
      refine callF_of (quiet_of hQ fun k10 _ => ?_)
      simp -implicitDefEqProofs (disch := first | omega | (simp only [St.set_n, St.up_n, List.length_cons, List.length_nil]; omega)) only [go_sem, Nat.reduceAdd, Nat.reduceMul, Nat.reduceSub, Int.reduceAdd, Int.reduceMul, Int.reduceSub, Int.reduceNeg, Int.reduceToNat, q13]
      refine callF_of (faults_of hQ.up ?_)
      simp -implicitDefEqProofs (disch := first | omega | (simp only [St.set_n, St.up_n, List.length_cons, List.length_nil]; omega)) only [go_sem, Nat.reduceAdd, Nat.reduceMul, Nat.reduceSub, Int.reduceAdd, Int.reduceMul, Int.reduceSub, Int.reduceNeg, Int.reduceToNat, q13]
      refine callF_of (idle_of hQ.up fun k11 _ => ?_)
      simp -implicitDefEqProofs (disch := first | omega | (simp only [St.set_n, St.up_n, List.length_cons, List.length_nil]; omega)) only [go_sem, Nat.reduceAdd, Nat.reduceMul, Nat.reduceSub, Int.reduceAdd, Int.reduceMul, Int.reduceSub, Int.reduceNeg, Int.reduceToNat, hd]
      exact ⟨_, To.refl _ _, hK _⟩
end
end Go.Proofs.YtdbgeahmhfocaaaGreat

/- The arguments of 'CorePolls'. -/
namespace Go.Proofs.YtdbgeahmhfocaaaGreat
set_option pp.deepTerms false
set_option pp.deepTerms.threshold 8
set_option linter.unusedSimpArgs false
set_option linter.unusedVariables false
set_option maxRecDepth 100000
open Go Go.RowKit Go.WideShapes
section
variable {H : Type} {enc : TypeId × Value → H}
theorem rd_int' {W : World} {cs : List Value} (h : Rdb enc Tryz.prog W 3 cs) : ∃ x, RInt x cs := by
  obtain ⟨n, h1, _⟩ := Rdb.int Tryz.underlying3 h
  exact ⟨n, h1⟩
theorem rd_msg {W : World} {cs : List Value} (h : Rdb enc Tryz.prog W 40 cs) : ∃ x, RMg x cs := by
  obtain ⟨hl, hf⟩ := h.struct Tryz.underlying40
  rw [show Tryz.prog.cellsOf 40 = 3 by kernel_rfl] at hl
  match cs, hl with
  | [c0, c1, c2], _ =>
    have f0 := hf _ (List.mem_cons_self)
    have f1 := hf _ (List.mem_cons_of_mem _ List.mem_cons_self)
    have f2 := hf _ (List.mem_cons_of_mem _ (List.mem_cons_of_mem _ List.mem_cons_self))
    simp only [show Tryz.prog.cellsOf 9 = 1 by kernel_rfl, show Tryz.prog.cellsOf 4 = 1 by kernel_rfl, List.drop_zero, List.drop_succ_cons, List.take_succ_cons, List.take_zero] at f0 f1 f2
    obtain ⟨s0, e0, _⟩ := Rdb.str Tryz.underlying9 f0
    obtain ⟨s1, e1, _⟩ := Rdb.str Tryz.underlying9 f1
    obtain ⟨b2, e2⟩ := Rdb.bool Tryz.underlying4 f2
    cases e0; cases e1; cases e2
    exact ⟨⟨s0, s1, b2⟩, rfl⟩
theorem rd_op {W : World} {cs : List Value} (h : Rdb enc Tryz.prog W 48 cs) : ∃ x, ROp x cs := by
  obtain ⟨hl, hf⟩ := h.struct Tryz.underlying48
  have hl' : cs.length = 5 := hl.trans (by kernel_rfl)
  match cs, hl' with
  | [a0, a1, a2, a3, a4], _ =>
    simp only [List.forall_mem_cons] at hf
    obtain ⟨h0, h1, h2, h3, h4, _⟩ := hf
    obtain ⟨x0, e0, _⟩ := Rdb.int (cs := [a0]) Tryz.underlying3 h0
    obtain ⟨x1, e1, _⟩ := Rdb.int (cs := [a1]) Tryz.underlying3 h1
    obtain ⟨x2, e2, _⟩ := Rdb.str (cs := [a2]) Tryz.underlying9 h2
    obtain ⟨x3, e3, _⟩ := Rdb.str (cs := [a3]) Tryz.underlying9 h3
    obtain ⟨x4, e4⟩ := Rdb.bool (cs := [a4]) Tryz.underlying4 h4
    simp only [List.cons.injEq, and_true] at e0 e1 e2 e3 e4
    refine ⟨⟨x0, x1, x2, x3, x4⟩, ?_⟩
    simp only [ROp, fOp, e0, e1, e2, e3, e4]
theorem rd_ops {W : World} {cs : List Value} (h : Rdb enc Tryz.prog W 46 cs) : ∃ l, ROps W l cs := by
  obtain ⟨v, l, rfl, hl⟩ := h.slice (R := ROp) Tryz.underlying46 (by rw [show Tryz.prog.cellsOf 48 = 5 by kernel_rfl]; omega) (fun cs h => rd_op h)
  rw [show Tryz.prog.cellsOf 48 = 5 by kernel_rfl] at hl
  exact ⟨l, v, rfl, hl⟩
theorem walkCorePolls (W : World) (v0 v1 v2 v3 v4 v5 : Value) {b : Nat} (o0 : Value.okWide Tryz.prog W .any b 3 v0) (o1 : Value.okWide Tryz.prog W .any b 3 v1) (o2 : Value.okWide Tryz.prog W .any b 22 v2) (o3 : Value.okWide Tryz.prog W .any b 23 v3) (o4 : Value.okWide Tryz.prog W .any b 24 v4) (o5 : Value.okWide Tryz.prog W .any b 22 v5)
    (r0 : Rdb enc Tryz.prog W 3 v0.cells.toList) (r1 : Rdb enc Tryz.prog W 3 v1.cells.toList) (r2 : Rdb enc Tryz.prog W 22 v2.cells.toList) (r3 : Rdb enc Tryz.prog W 23 v3.cells.toList) (r4 : Rdb enc Tryz.prog W 24 v4.cells.toList) (r5 : Rdb enc Tryz.prog W 22 v5.cells.toList) :
    Calls Tryz.prog 3 #[v0, v1, v2, v3, v4, v5] W fun e w' => e = .returned (.bool true) ∧ Below W.heap.size W w' := by
  obtain ⟨n, rfl, _⟩ := arg_int Tryz.underlying3 o0 r0
  obtain ⟨m, rfl, _⟩ := arg_int Tryz.underlying3 o1 r1
  obtain ⟨l2, h2⟩ := arg_slice (R := RInt) Tryz.underlying22 (by rw [show Tryz.prog.cellsOf 3 = 1 by kernel_rfl]; omega) (fun cs h => rd_int' h) o2 r2
  rw [show Tryz.prog.cellsOf 3 = 1 by kernel_rfl] at h2
  obtain ⟨l3, h3⟩ := arg_slice (R := RMg) Tryz.underlying23 (by rw [show Tryz.prog.cellsOf 40 = 3 by kernel_rfl]; omega) (fun cs h => rd_msg h) o3 r3
  rw [show Tryz.prog.cellsOf 40 = 3 by kernel_rfl] at h3
  obtain ⟨l4, h4⟩ := arg_slice (R := ROps W) Tryz.underlying24 (by rw [show Tryz.prog.cellsOf 46 = 1 by kernel_rfl]; omega) (fun cs h => rd_ops h) o4 r4
  rw [show Tryz.prog.cellsOf 46 = 1 by kernel_rfl] at h4
  obtain ⟨l5, h5⟩ := arg_slice (R := RInt) Tryz.underlying22 (by rw [show Tryz.prog.cellsOf 3 = 1 by kernel_rfl]; omega) (fun cs h => rd_int' h) o5 r5
  rw [show Tryz.prog.cellsOf 3 = 1 by kernel_rfl] at h5
  exact (pol22 h2 h3 h4 h5 fun _ => rfl).calls
end
end Go.Proofs.YtdbgeahmhfocaaaGreat
