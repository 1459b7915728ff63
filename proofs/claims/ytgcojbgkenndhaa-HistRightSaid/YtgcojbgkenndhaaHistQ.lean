/- Histories: the document's 'Right', by a walk. -/
import Derived.Test.YtgcojbgkenndhaaHistR
namespace Go.Proofs.Ytgcojbgkenndhaa
set_option pp.deepTerms false
set_option pp.deepTerms.threshold 8
set_option linter.unusedSimpArgs false
set_option linter.unusedVariables false
set_option maxRecDepth 100000
open Go Go.RowKit
section
variable {B : World} {σ τ : St} {K : Value → St → Prop}
structure QI (A : Option Addr) (n cap i : Nat) (e : Fr) : Prop where
  v0 : e.v 0 = .slice A n cap
  v3 : e.v 3 = .int .i64 i
  d : e.d = []
structure QJ (A : Option Addr) (n cap i k pl : Nat) (e : Fr) : Prop where
  v0 : e.v 0 = .slice A n cap
  v3 : e.v 3 = .int .i64 i
  v4 : e.v 4 = .int .i64 pl
  v5 : e.v 5 = .int .i64 k
  d : e.d = []
structure QH (l : List Cl) (c : Cl) (k : Nat) : Prop where
  h : ∀ (j : Nat) (d : Cl), j < k → l[j]? = some d → d.to ≠ c.to ∧ d.to ≠ c.fr ∧ d.fr ≠ c.to ∧ (d.th = c.th → d.to < c.fr)
set_option maxHeartbeats 8000000 in
open Classical in
theorem ref_right {l : List Cl} {v : Value} (hl : l.length ≤ 100000) (ho : Sq B σ l v) (hK : K (.bool (decide (Rt l))) σ) : Fn Try.prog B 38 #[v] σ K := by
  obtain ⟨A, cap, rfl, hc, ho⟩ := ho
  refine Fn.of is38 (by simp) fun hwf => ?_
  simp only [b38, Try.f38, Option.getD_some]
  simp -implicitDefEqProofs (disch := first | omega | (simp only [St.set_n, St.up_n, List.length_cons, List.length_nil]; omega)) only [go_sem, Nat.reduceAdd, Nat.reduceMul, Nat.reduceSub, Int.reduceAdd, Int.reduceMul, Int.reduceSub, Int.reduceNeg, Int.reduceToNat]
  refine loop_rule (fun m e s => ∃ i : Nat, m = l.length - i ∧ i ≤ l.length ∧ QI A l.length cap i e ∧ RtTo l i ∧ s = σ) l.length ?_ ?_
  · exact ⟨0, by omega, by omega, ⟨by simp -implicitDefEqProofs (disch := first | omega | (simp only [St.set_n, St.up_n, List.length_cons, List.length_nil]; omega)) only [go_sem, Nat.reduceAdd, Nat.reduceMul, Nat.reduceSub, Int.reduceAdd, Int.reduceMul, Int.reduceSub, Int.reduceNeg, Int.reduceToNat], by simp -implicitDefEqProofs (disch := first | omega | (simp only [St.set_n, St.up_n, List.length_cons, List.length_nil]; omega)) only [go_sem, Nat.reduceAdd, Nat.reduceMul, Nat.reduceSub, Int.reduceAdd, Int.reduceMul, Int.reduceSub, Int.reduceNeg, Int.reduceToNat]; rfl, by simp -implicitDefEqProofs (disch := first | omega | (simp only [St.set_n, St.up_n, List.length_cons, List.length_nil]; omega)) only [go_sem, Nat.reduceAdd, Nat.reduceMul, Nat.reduceSub, Int.reduceAdd, Int.reduceMul, Int.reduceSub, Int.reduceNeg, Int.reduceToNat]⟩, RtTo.zero, rfl⟩
  rintro m e s hws ⟨i, hm, hi, ⟨q0, q3, hd⟩, hrt, rfl⟩
  by_cases hlt : (i : Int) < l.length
  · obtain ⟨c, hci⟩ : ∃ x, l[i]? = some x := ⟨l[i]'(by omega), List.getElem?_eq_getElem (by omega)⟩
    obtain ⟨b, o, rfl, hb, hcell⟩ := ho i c hci
    have hcc := sq_cells hcell
    have no : ¬ OkC l i c → K (.bool false) s := fun h => by
      have := hK
      rwa [decide_eq_false (not_rt hci h)] at this
    by_cases f1 : c.fr < 1
    · simp -implicitDefEqProofs (disch := first | omega | (simp only [St.set_n, St.up_n, List.length_cons, List.length_nil]; omega)) only [go_sem, Nat.reduceAdd, Nat.reduceMul, Nat.reduceSub, Int.reduceAdd, Int.reduceMul, Int.reduceSub, Int.reduceNeg, Int.reduceToNat, q0, q3, hlt, hcc, f1, hd]
      exact no fun h => by have := h.f1; omega
    by_cases f2 : c.to ≤ c.fr
    · simp -implicitDefEqProofs (disch := first | omega | (simp only [St.set_n, St.up_n, List.length_cons, List.length_nil]; omega)) only [go_sem, Nat.reduceAdd, Nat.reduceMul, Nat.reduceSub, Int.reduceAdd, Int.reduceMul, Int.reduceSub, Int.reduceNeg, Int.reduceToNat, q0, q3, hlt, hcc, f1, f2, hd]
      exact no fun h => by have := h.f2; omega
    by_cases f5 : ∃ d, 0 < i ∧ l[i - 1]? = some d ∧ c.fr ≤ d.fr
    · obtain ⟨d, hi0, hdi, hle⟩ := f5
      obtain ⟨_, _, e0, _, hdcell⟩ := ho (i - 1) d hdi
      cases e0
      have hdd := sq_cells hdcell
      have e1 : (i : Int) - 1 = ((i - 1 : Nat) : Int) := by omega
      have hi0' : (0 : Int) < i := by omega
      have hi1 : ((i - 1 : Nat) : Int) < l.length := by omega
      simp -implicitDefEqProofs (disch := first | omega | (simp only [St.set_n, St.up_n, List.length_cons, List.length_nil]; omega)) only [go_sem, Nat.reduceAdd, Nat.reduceMul, Nat.reduceSub, Int.reduceAdd, Int.reduceMul, Int.reduceSub, Int.reduceNeg, Int.reduceToNat, q0, q3, hlt, hcc, hdd, f1, f2, hi0', e1, hi1, hle, hd]
      exact no fun h => by have := h.inc d hi0 hdi; omega
    have f5' : ∀ d, 0 < i → l[i - 1]? = some d → d.fr < c.fr := fun d h1 h2 => by
      rcases Int.lt_or_le d.fr c.fr with h | h
      · exact h
      · exact absurd ⟨d, h1, h2, h⟩ f5
    by_cases hi0 : (0 : Int) < i
    case' pos =>
      obtain ⟨d, hdi⟩ : ∃ x, l[i - 1]? = some x := ⟨l[i - 1]'(by omega), List.getElem?_eq_getElem (by omega)⟩
      obtain ⟨_, _, e0, _, hdcell⟩ := ho (i - 1) d hdi
      cases e0
      have hdd := sq_cells hdcell
      have e1 : (i : Int) - 1 = ((i - 1 : Nat) : Int) := by omega
      have hi1 : ((i - 1 : Nat) : Int) < l.length := by omega
      have hle := f5' d (by omega) hdi
      simp -implicitDefEqProofs (disch := first | omega | (simp only [St.set_n, St.up_n, List.length_cons, List.length_nil]; omega)) only [go_sem, Nat.reduceAdd, Nat.reduceMul, Nat.reduceSub, Int.reduceAdd, Int.reduceMul, Int.reduceSub, Int.reduceNeg, Int.reduceToNat, q0, q3, hlt, hcc, hdd, f1, f2, hi0, e1, hi1, hle, hd]
    case' neg =>
      simp -implicitDefEqProofs (disch := first | omega | (simp only [St.set_n, St.up_n, List.length_cons, List.length_nil]; omega)) only [go_sem, Nat.reduceAdd, Nat.reduceMul, Nat.reduceSub, Int.reduceAdd, Int.reduceMul, Int.reduceSub, Int.reduceNeg, Int.reduceToNat, q0, q3, hlt, hcc, f1, f2, hi0, hd]
    all_goals
      refine loop_rule (fun m e s' => ∃ k : Nat, m = i - k ∧ k ≤ i ∧ QJ (some ⟨b, o, none⟩) l.length cap i k (cnt (l.take k) c.th) e ∧ QH l c k ∧ s' = s) i ?_ ?_
      · exact ⟨0, by omega, by omega, ⟨by simp -implicitDefEqProofs (disch := first | omega | (simp only [St.set_n, St.up_n, List.length_cons, List.length_nil]; omega)) only [go_sem, Nat.reduceAdd, Nat.reduceMul, Nat.reduceSub, Int.reduceAdd, Int.reduceMul, Int.reduceSub, Int.reduceNeg, Int.reduceToNat, q0], by simp -implicitDefEqProofs (disch := first | omega | (simp only [St.set_n, St.up_n, List.length_cons, List.length_nil]; omega)) only [go_sem, Nat.reduceAdd, Nat.reduceMul, Nat.reduceSub, Int.reduceAdd, Int.reduceMul, Int.reduceSub, Int.reduceNeg, Int.reduceToNat, q3], by simp -implicitDefEqProofs (disch := first | omega | (simp only [St.set_n, St.up_n, List.length_cons, List.length_nil]; omega)) only [go_sem, Nat.reduceAdd, Nat.reduceMul, Nat.reduceSub, Int.reduceAdd, Int.reduceMul, Int.reduceSub, Int.reduceNeg, Int.reduceToNat]; rfl, by simp -implicitDefEqProofs (disch := first | omega | (simp only [St.set_n, St.up_n, List.length_cons, List.length_nil]; omega)) only [go_sem, Nat.reduceAdd, Nat.reduceMul, Nat.reduceSub, Int.reduceAdd, Int.reduceMul, Int.reduceSub, Int.reduceNeg, Int.reduceToNat]; rfl, by simp -implicitDefEqProofs (disch := first | omega | (simp only [St.set_n, St.up_n, List.length_cons, List.length_nil]; omega)) only [go_sem, Nat.reduceAdd, Nat.reduceMul, Nat.reduceSub, Int.reduceAdd, Int.reduceMul, Int.reduceSub, Int.reduceNeg, Int.reduceToNat, hd]⟩, ⟨fun j d hj => by omega⟩, rfl⟩
      clear q0 q3 hd
      rintro m e s' hws' ⟨k, hm', hk, ⟨q0, q3, q4, q5, hd⟩, ⟨hall⟩, rfl⟩
      have hcl := cnt_le (l.take k) c.th
      rw [List.length_take] at hcl
      by_cases hkl : (k : Int) < i
      · first
        | (exfalso; omega)
        | (obtain ⟨d, hdk⟩ : ∃ x, l[k]? = some x := ⟨l[k]'(by omega), List.getElem?_eq_getElem (by omega)⟩
           obtain ⟨_, _, e0, _, hdcell⟩ := ho k d hdk
           cases e0
           have hdd := sq_cells hdcell
           have hkl' : (k : Int) < l.length := by omega
           by_cases g1 : d.to = c.to
           · simp -implicitDefEqProofs (disch := first | omega | (simp only [St.set_n, St.up_n, List.length_cons, List.length_nil]; omega)) only [go_sem, Nat.reduceAdd, Nat.reduceMul, Nat.reduceSub, Int.reduceAdd, Int.reduceMul, Int.reduceSub, Int.reduceNeg, Int.reduceToNat, q0, q3, q4, q5, hkl, hkl', hlt, hcc, hdd, g1, hd]
             exact no fun h => (h.ne k d (by omega) hdk).1 g1
           have gx : ¬ c.fr = c.to := by omega
           by_cases g2 : d.to = c.fr
           · simp -implicitDefEqProofs (disch := first | omega | (simp only [St.set_n, St.up_n, List.length_cons, List.length_nil]; omega)) only [go_sem, Nat.reduceAdd, Nat.reduceMul, Nat.reduceSub, Int.reduceAdd, Int.reduceMul, Int.reduceSub, Int.reduceNeg, Int.reduceToNat, q0, q3, q4, q5, hkl, hkl', hlt, hcc, hdd, g1, g2, gx, hd]
             exact no fun h => (h.ne k d (by omega) hdk).2.1 g2
           by_cases g3 : d.fr = c.to
           · simp -implicitDefEqProofs (disch := first | omega | (simp only [St.set_n, St.up_n, List.length_cons, List.length_nil]; omega)) only [go_sem, Nat.reduceAdd, Nat.reduceMul, Nat.reduceSub, Int.reduceAdd, Int.reduceMul, Int.reduceSub, Int.reduceNeg, Int.reduceToNat, q0, q3, q4, q5, hkl, hkl', hlt, hcc, hdd, g1, g2, g3, hd]
             exact no fun h => (h.ne k d (by omega) hdk).2.2 g3
           by_cases g4 : d.th = c.th
           · have hdpl := (hrt k d (by omega) hdk).pl
             rw [g4] at hdpl
             by_cases g5 : c.fr ≤ d.to
             · simp -implicitDefEqProofs (disch := first | omega | (simp only [St.set_n, St.up_n, List.length_cons, List.length_nil]; omega)) only [go_sem, Nat.reduceAdd, Nat.reduceMul, Nat.reduceSub, Int.reduceAdd, Int.reduceMul, Int.reduceSub, Int.reduceNeg, Int.reduceToNat, q0, q3, q4, q5, hkl, hkl', hlt, hcc, hdd, g1, g2, g3, g4, g5, hd]
               exact no fun h => by have := h.th k d (by omega) hdk g4; omega
             · simp -implicitDefEqProofs (disch := first | omega | (simp only [St.set_n, St.up_n, List.length_cons, List.length_nil]; omega)) only [go_sem, Nat.reduceAdd, Nat.reduceMul, Nat.reduceSub, Int.reduceAdd, Int.reduceMul, Int.reduceSub, Int.reduceNeg, Int.reduceToNat, q0, q3, q4, q5, hkl, hkl', hlt, hcc, hdd, g1, g2, g3, g4, g5, hdpl, hd]
               refine ⟨i - (k + 1), by omega, k + 1, rfl, by omega, ⟨by simp -implicitDefEqProofs (disch := first | omega | (simp only [St.set_n, St.up_n, List.length_cons, List.length_nil]; omega)) only [go_sem, Nat.reduceAdd, Nat.reduceMul, Nat.reduceSub, Int.reduceAdd, Int.reduceMul, Int.reduceSub, Int.reduceNeg, Int.reduceToNat, q0], by simp -implicitDefEqProofs (disch := first | omega | (simp only [St.set_n, St.up_n, List.length_cons, List.length_nil]; omega)) only [go_sem, Nat.reduceAdd, Nat.reduceMul, Nat.reduceSub, Int.reduceAdd, Int.reduceMul, Int.reduceSub, Int.reduceNeg, Int.reduceToNat, q3], ?_, by simp -implicitDefEqProofs (disch := first | omega | (simp only [St.set_n, St.up_n, List.length_cons, List.length_nil]; omega)) only [go_sem, Nat.reduceAdd, Nat.reduceMul, Nat.reduceSub, Int.reduceAdd, Int.reduceMul, Int.reduceSub, Int.reduceNeg, Int.reduceToNat]; rfl, by simp -implicitDefEqProofs (disch := first | omega | (simp only [St.set_n, St.up_n, List.length_cons, List.length_nil]; omega)) only [go_sem, Nat.reduceAdd, Nat.reduceMul, Nat.reduceSub, Int.reduceAdd, Int.reduceMul, Int.reduceSub, Int.reduceNeg, Int.reduceToNat, hd]⟩, ⟨fun j d' hj hd' => ?_⟩⟩
               · rw [cnt_take_succ hdk, if_pos g4]; simp -implicitDefEqProofs (disch := first | omega | (simp only [St.set_n, St.up_n, List.length_cons, List.length_nil]; omega)) only [go_sem, Nat.reduceAdd, Nat.reduceMul, Nat.reduceSub, Int.reduceAdd, Int.reduceMul, Int.reduceSub, Int.reduceNeg, Int.reduceToNat]; rfl
               · by_cases e : j = k
                 · subst e; rw [hdk] at hd'; cases hd'; exact ⟨g1, g2, g3, fun _ => by omega⟩
                 · exact hall j d' (by omega) hd'
           · simp -implicitDefEqProofs (disch := first | omega | (simp only [St.set_n, St.up_n, List.length_cons, List.length_nil]; omega)) only [go_sem, Nat.reduceAdd, Nat.reduceMul, Nat.reduceSub, Int.reduceAdd, Int.reduceMul, Int.reduceSub, Int.reduceNeg, Int.reduceToNat, q0, q3, q4, q5, hkl, hkl', hlt, hcc, hdd, g1, g2, g3, g4, hd]
             refine ⟨i - (k + 1), by omega, k + 1, rfl, by omega, ⟨by simp -implicitDefEqProofs (disch := first | omega | (simp only [St.set_n, St.up_n, List.length_cons, List.length_nil]; omega)) only [go_sem, Nat.reduceAdd, Nat.reduceMul, Nat.reduceSub, Int.reduceAdd, Int.reduceMul, Int.reduceSub, Int.reduceNeg, Int.reduceToNat, q0], by simp -implicitDefEqProofs (disch := first | omega | (simp only [St.set_n, St.up_n, List.length_cons, List.length_nil]; omega)) only [go_sem, Nat.reduceAdd, Nat.reduceMul, Nat.reduceSub, Int.reduceAdd, Int.reduceMul, Int.reduceSub, Int.reduceNeg, Int.reduceToNat, q3], ?_, by simp -implicitDefEqProofs (disch := first | omega | (simp only [St.set_n, St.up_n, List.length_cons, List.length_nil]; omega)) only [go_sem, Nat.reduceAdd, Nat.reduceMul, Nat.reduceSub, Int.reduceAdd, Int.reduceMul, Int.reduceSub, Int.reduceNeg, Int.reduceToNat]; rfl, by simp -implicitDefEqProofs (disch := first | omega | (simp only [St.set_n, St.up_n, List.length_cons, List.length_nil]; omega)) only [go_sem, Nat.reduceAdd, Nat.reduceMul, Nat.reduceSub, Int.reduceAdd, Int.reduceMul, Int.reduceSub, Int.reduceNeg, Int.reduceToNat, hd]⟩, ⟨fun j d' hj hd' => ?_⟩⟩
             · rw [cnt_take_succ hdk, if_neg g4]; simp -implicitDefEqProofs (disch := first | omega | (simp only [St.set_n, St.up_n, List.length_cons, List.length_nil]; omega)) only [go_sem, Nat.reduceAdd, Nat.reduceMul, Nat.reduceSub, Int.reduceAdd, Int.reduceMul, Int.reduceSub, Int.reduceNeg, Int.reduceToNat, q4]
             · by_cases e : j = k
               · subst e; rw [hdk] at hd'; cases hd'; exact ⟨g1, g2, g3, fun h => absurd h g4⟩
               · exact hall j d' (by omega) hd')
      · have hki : k = i := by omega
        subst hki
        by_cases g6 : c.pl = (cnt (l.take k) c.th : Int)
        · have hok : OkC l k c := ⟨by omega, by omega, f5', fun j d hj hd' => ⟨(hall j d hj hd').1, (hall j d hj hd').2.1, (hall j d hj hd').2.2.1⟩, fun j d hj hd' => (hall j d hj hd').2.2.2, g6⟩
          simp -implicitDefEqProofs (disch := first | omega | (simp only [St.set_n, St.up_n, List.length_cons, List.length_nil]; omega)) only [go_sem, Nat.reduceAdd, Nat.reduceMul, Nat.reduceSub, Int.reduceAdd, Int.reduceMul, Int.reduceSub, Int.reduceNeg, Int.reduceToNat, q0, q3, q4, q5, hkl, hlt, hcc, g6, hd]
          exact ⟨l.length - (k + 1), by omega, k + 1, rfl, by omega, ⟨by simp -implicitDefEqProofs (disch := first | omega | (simp only [St.set_n, St.up_n, List.length_cons, List.length_nil]; omega)) only [go_sem, Nat.reduceAdd, Nat.reduceMul, Nat.reduceSub, Int.reduceAdd, Int.reduceMul, Int.reduceSub, Int.reduceNeg, Int.reduceToNat, q0], by simp -implicitDefEqProofs (disch := first | omega | (simp only [St.set_n, St.up_n, List.length_cons, List.length_nil]; omega)) only [go_sem, Nat.reduceAdd, Nat.reduceMul, Nat.reduceSub, Int.reduceAdd, Int.reduceMul, Int.reduceSub, Int.reduceNeg, Int.reduceToNat]; rfl, by simp -implicitDefEqProofs (disch := first | omega | (simp only [St.set_n, St.up_n, List.length_cons, List.length_nil]; omega)) only [go_sem, Nat.reduceAdd, Nat.reduceMul, Nat.reduceSub, Int.reduceAdd, Int.reduceMul, Int.reduceSub, Int.reduceNeg, Int.reduceToNat, hd]⟩, hrt.succ hci hok⟩
        · simp -implicitDefEqProofs (disch := first | omega | (simp only [St.set_n, St.up_n, List.length_cons, List.length_nil]; omega)) only [go_sem, Nat.reduceAdd, Nat.reduceMul, Nat.reduceSub, Int.reduceAdd, Int.reduceMul, Int.reduceSub, Int.reduceNeg, Int.reduceToNat, q0, q3, q4, q5, hkl, hlt, hcc, g6, hd]
          exact no fun h => g6 h.pl
  · simp -implicitDefEqProofs (disch := first | omega | (simp only [St.set_n, St.up_n, List.length_cons, List.length_nil]; omega)) only [go_sem, Nat.reduceAdd, Nat.reduceMul, Nat.reduceSub, Int.reduceAdd, Int.reduceMul, Int.reduceSub, Int.reduceNeg, Int.reduceToNat, q0, q3, hlt, hd]
    have hil : i = l.length := by omega
    subst hil
    rwa [decide_eq_true hrt.all] at hK
end
end Go.Proofs.Ytgcojbgkenndhaa
