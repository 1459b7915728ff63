/- Histories: the document's 'End'; whether two lists of calls are the same: walks. -/
import Derived.Test.YtgcojbgkenndhaaHistF
namespace Go.Proofs.Ytgcojbgkenndhaa
set_option pp.deepTerms false
set_option pp.deepTerms.threshold 8
set_option linter.unusedSimpArgs false
set_option linter.unusedVariables false
set_option maxRecDepth 100000
open Go Go.RowKit
section
variable {B : World} {σ τ : St} {K : Value → St → Prop}
set_option maxHeartbeats 4000000 in
theorem rl_end_no {S : LS} {p : Nat} {sv : Value} {id : Int} {a : CAn} (hR : RlO σ p S sv) (hl : S.l.length ≤ 100000) (hb : Bad S.l id)
    (hK : ∀ k, σ.n ≤ k → K (.bool false) (σ.up k)) : Fn Try.prog B 34 #[.pointer (some ⟨p, 0, none⟩), .int .i64 id, .agg (fAn a).toArray] σ K := by
  obtain ⟨hr, ho, hoff⟩ := hR
  obtain ⟨A, cap, rfl, _⟩ := ho.is
  refine Fn.of' is34 (by simp) fun hwf => ?_
  have hpn := (hwf.2 _ _ hr).2
  simp only [b34, Try.f34, Option.getD_some]
  by_cases h1 : id < 1
  · simp -implicitDefEqProofs (disch := first | omega | (simp only [St.set_n, St.up_n, List.length_cons, List.length_nil]; omega)) only [go_sem, Nat.reduceAdd, Nat.reduceMul, Nat.reduceSub, Int.reduceAdd, Int.reduceMul, Int.reduceSub, Int.reduceNeg, Int.reduceToNat, fAn, hr, h1]
    exact ⟨_, To.same (fun d y h2 h3 => by simp -implicitDefEqProofs (disch := first | omega | (simp only [St.set_n, St.up_n, List.length_cons, List.length_nil]; omega)) only [go_sem, Nat.reduceAdd, Nat.reduceMul, Nat.reduceSub, Int.reduceAdd, Int.reduceMul, Int.reduceSub, Int.reduceNeg, Int.reduceToNat, h3]) hwf, hK _ (by simp only [St.up_n]; omega)⟩
  · by_cases h2 : (S.l.length : Int) < id
    · simp -implicitDefEqProofs (disch := first | omega | (simp only [St.set_n, St.up_n, List.length_cons, List.length_nil]; omega)) only [go_sem, Nat.reduceAdd, Nat.reduceMul, Nat.reduceSub, Int.reduceAdd, Int.reduceMul, Int.reduceSub, Int.reduceNeg, Int.reduceToNat, fAn, hr, h1, h2]
      exact ⟨_, To.same (fun d y h2 h3 => by simp -implicitDefEqProofs (disch := first | omega | (simp only [St.set_n, St.up_n, List.length_cons, List.length_nil]; omega)) only [go_sem, Nat.reduceAdd, Nat.reduceMul, Nat.reduceSub, Int.reduceAdd, Int.reduceMul, Int.reduceSub, Int.reduceNeg, Int.reduceToNat, h3]) hwf, hK _ (by simp only [St.up_n]; omega)⟩
    · obtain ⟨j, c, rfl, hc, hto⟩ := (hb.resolve_left h1).resolve_left h2
      have hj := (List.getElem?_eq_some_iff.1 hc).1
      obtain ⟨b, c1, sp, e1, _, mb, lb, _⟩ := ho.has (by omega)
      cases e1
      have g := flat_get fC_len S.l sp j c 14 (.int .i64 c.to) hc rfl
      have hjj : (j : Int) + 1 - 1 = j := by omega
      have hjl : (j : Int) < S.l.length := by omega
      have hbn := hwf.2 _ _ mb
      simp -implicitDefEqProofs (disch := first | omega | (simp only [St.set_n, St.up_n, List.length_cons, List.length_nil]; omega)) only [go_sem, Nat.reduceAdd, Nat.reduceMul, Nat.reduceSub, Int.reduceAdd, Int.reduceMul, Int.reduceSub, Int.reduceNeg, Int.reduceToNat, fAn, hr, h1, h2, mb, g, hto, hjj, hjl]
      exact ⟨_, To.same (fun d y h2 h3 => by simp -implicitDefEqProofs (disch := first | omega | (simp only [St.set_n, St.up_n, List.length_cons, List.length_nil]; omega)) only [go_sem, Nat.reduceAdd, Nat.reduceMul, Nat.reduceSub, Int.reduceAdd, Int.reduceMul, Int.reduceSub, Int.reduceNeg, Int.reduceToNat, h3]) hwf, hK _ (by simp only [St.up_n]; omega)⟩
set_option maxHeartbeats 4000000 in
theorem rl_end {S : LS} {p : Nat} {sv : Value} {id : Int} {j : Nat} {c : Cl} {a : CAn} (hR : RlO σ p S sv) (hn1 : S.now ≤ 1000000) (hl : S.l.length ≤ 100000) (hid : id = (j : Int) + 1) (hc : S.l[j]? = some c) (hto : c.to = 0)
    (hK : ∀ s, RlO s p (S.fin j c a) sv → (∀ d x, d ≠ p → blk sv ≠ some d → σ.m d = some x → s.m d = some x) → σ.n ≤ s.n → K (.bool true) s) :
    Fn Try.prog B 34 #[.pointer (some ⟨p, 0, none⟩), .int .i64 id, .agg (fAn a).toArray] σ K := by
  obtain ⟨hr, ho, hoff⟩ := hR
  subst hid
  refine Fn.of is34 (by simp) fun hwf => ?_
  have hpn := hwf.2 _ _ hr
  have hj := (List.getElem?_eq_some_iff.1 hc).1
  obtain ⟨b, c1, sp, rfl, hc1, mb, lb, _⟩ := ho.has (by omega)
  have hbn := hwf.2 _ _ mb
  have hbp : b ≠ p := fun e => hoff (by rw [e]; rfl)
  have g := flat_get fC_len S.l sp j c 14 (.int .i64 c.to) hc rfl
  rw [hto] at g
  have hjj : (j : Int) + 1 - 1 = j := by omega
  have hjl : (j : Int) < S.l.length := by omega
  have h1 : ¬ (j : Int) + 1 < 1 := by omega
  have h2 : ¬ (S.l.length : Int) < (j : Int) + 1 := by omega
  have st1 := flat_set fC_len S.l sp j c { c with to := S.now + 1 } 14 (.int .i64 (S.now + 1)) hc (by omega) (fC_to c _)
  have lb2 : (flat fC (S.l.set j { c with to := S.now + 1 }) ++ sp).length = c1 * 15 := by rw [← st1, List.length_set]; exact lb
  have hj2 : (S.l.set j { c with to := S.now + 1 })[j]? = some { c with to := S.now + 1 } := List.getElem?_set_self hj
  have st2 := an_set sp a hj2
  rw [List.set_set] at st2
  simp only [b34, Try.f34, Option.getD_some]
  simp -implicitDefEqProofs (disch := first | omega | (simp only [St.set_n, St.up_n, List.length_cons, List.length_nil]; omega)) only [go_sem, Nat.reduceAdd, Nat.reduceMul, Nat.reduceSub, Int.reduceAdd, Int.reduceMul, Int.reduceSub, Int.reduceNeg, Int.reduceToNat, fAn, hr, h1, h2, mb, g, hjj, hjl]
  refine effD_plan [0, 1, 3, 7, 0, 16, 0, 64, 192, 448, 1023, 2047, 4095] [0, 1, 2, 3, 4, 5, 6, 7, 8, 9, 10, 11] (.eag 0 (.eag 1 (.eag 2 (.eagq 3 (.eag 4 (.eag 5 (.eag 6 (.eag 7 (.eag 8 (.eagq 9 (.eag 10 (.eag 11 (.alt 12 [] .fin .stop))))))))))))) (by kernel_rfl) ?_
  simp -implicitDefEqProofs (disch := first | omega | (simp only [St.set_n, St.up_n, List.length_cons, List.length_nil]; omega)) only [go_sem, Nat.reduceAdd, Nat.reduceMul, Nat.reduceSub, Int.reduceAdd, Int.reduceMul, Int.reduceSub, Int.reduceNeg, Int.reduceToNat, fAn, hr, h1, h2, mb, g, hjj, hjl, st1, hbp, lb, lb2]
  refine effD_plan [0, 1, 3, 7, 0, 16, 0, 127, 255, 511] [0, 1, 2, 3, 4, 5, 6, 7, 8] (.eag 0 (.eag 1 (.eag 2 (.eagq 3 (.eag 4 (.eag 5 (.eagq 6 (.eag 7 (.eag 8 (.alt 9 [] .fin .stop)))))))))) (by kernel_rfl) ?_
  simp -implicitDefEqProofs (disch := first | omega | (simp only [St.set_n, St.up_n, List.length_cons, List.length_nil]; omega)) only [go_sem, Nat.reduceAdd, Nat.reduceMul, Nat.reduceSub, Int.reduceAdd, Int.reduceMul, Int.reduceSub, Int.reduceNeg, Int.reduceToNat, fAn, hr, h1, h2, mb, g, hjj, hjl, st1, hbp, lb, lb2]
  rw [st2]
  have e : (S.l.set j { c with an := a, to := S.now + 1 }).length = S.l.length := List.length_set
  refine hK _ ⟨by simp -implicitDefEqProofs (disch := first | omega | (simp only [St.set_n, St.up_n, List.length_cons, List.length_nil]; omega)) only [go_sem, Nat.reduceAdd, Nat.reduceMul, Nat.reduceSub, Int.reduceAdd, Int.reduceMul, Int.reduceSub, Int.reduceNeg, Int.reduceToNat]; rfl, ?_, hoff⟩ (fun d x hd hb hx => ?_) (by simp only [St.up_n, St.set_n]; omega)
  · show Own _ 65 15 (flat fC (S.l.set j { c with an := a, to := S.now + 1 })) (S.l.set j { c with an := a, to := S.now + 1 }).length _
    rw [e]
    refine Own.of' (sp := sp) (by simp -implicitDefEqProofs (disch := first | omega | (simp only [St.set_n, St.up_n, List.length_cons, List.length_nil]; omega)) only [go_sem, Nat.reduceAdd, Nat.reduceMul, Nat.reduceSub, Int.reduceAdd, Int.reduceMul, Int.reduceSub, Int.reduceNeg, Int.reduceToNat]) (by rw [flat_length fC_len, e]) hc1 (by rw [← st2]; simpa using lb2)
  · have hdn := (hwf.2 _ _ hx).2
    have hdb : d ≠ b := fun e => hb (by rw [e]; rfl)
    simp -implicitDefEqProofs (disch := first | omega | (simp only [St.set_n, St.up_n, List.length_cons, List.length_nil]; omega)) only [go_sem, Nat.reduceAdd, Nat.reduceMul, Nat.reduceSub, Int.reduceAdd, Int.reduceMul, Int.reduceSub, Int.reduceNeg, Int.reduceToNat, hx]
structure SmI (A A' : Option Addr) (n c c' i : Nat) (e : Fr) : Prop where
  v0 : e.v 0 = .slice A n c
  v1 : e.v 1 = .slice A' n c'
  v5 : e.v 5 = .int .i64 i
  d : e.d = []
set_option maxHeartbeats 4000000 in
theorem same_calls {l : List Cl} {v v' : Value} (hl : l.length ≤ 100000) (ho : Own σ 65 15 (flat fC l) l.length v) (ho' : Own σ 65 15 (flat fC l) l.length v') (hK : K (.bool true) σ) : Fn Try.prog B 36 #[v, v'] σ K := by
  obtain ⟨A, c, rfl, _⟩ := ho.is
  obtain ⟨A', c', rfl, _⟩ := ho'.is
  refine Fn.of is36 (by simp) fun hwf => ?_
  simp only [b36, Try.f36, Option.getD_some]
  simp -implicitDefEqProofs (disch := first | omega | (simp only [St.set_n, St.up_n, List.length_cons, List.length_nil]; omega)) only [go_sem, Nat.reduceAdd, Nat.reduceMul, Nat.reduceSub, Int.reduceAdd, Int.reduceMul, Int.reduceSub, Int.reduceNeg, Int.reduceToNat]
  refine loop_rule (fun m e s => ∃ i : Nat, m = l.length - i ∧ i ≤ l.length ∧ SmI A A' l.length c c' i e ∧ Eqs σ s) l.length ?_ ?_
  · exact ⟨0, by omega, by omega, ⟨by simp -implicitDefEqProofs (disch := first | omega | (simp only [St.set_n, St.up_n, List.length_cons, List.length_nil]; omega)) only [go_sem, Nat.reduceAdd, Nat.reduceMul, Nat.reduceSub, Int.reduceAdd, Int.reduceMul, Int.reduceSub, Int.reduceNeg, Int.reduceToNat], by simp -implicitDefEqProofs (disch := first | omega | (simp only [St.set_n, St.up_n, List.length_cons, List.length_nil]; omega)) only [go_sem, Nat.reduceAdd, Nat.reduceMul, Nat.reduceSub, Int.reduceAdd, Int.reduceMul, Int.reduceSub, Int.reduceNeg, Int.reduceToNat], by simp -implicitDefEqProofs (disch := first | omega | (simp only [St.set_n, St.up_n, List.length_cons, List.length_nil]; omega)) only [go_sem, Nat.reduceAdd, Nat.reduceMul, Nat.reduceSub, Int.reduceAdd, Int.reduceMul, Int.reduceSub, Int.reduceNeg, Int.reduceToNat]; rfl, by simp -implicitDefEqProofs (disch := first | omega | (simp only [St.set_n, St.up_n, List.length_cons, List.length_nil]; omega)) only [go_sem, Nat.reduceAdd, Nat.reduceMul, Nat.reduceSub, Int.reduceAdd, Int.reduceMul, Int.reduceSub, Int.reduceNeg, Int.reduceToNat]⟩, ⟨rfl⟩⟩
  rintro m e s hws ⟨i, hm, hi, ⟨q0, q1, q5, hd⟩, ⟨rfl⟩⟩
  by_cases hlt : (i : Int) < l.length
  · obtain ⟨x, hx⟩ : ∃ x, l[i]? = some x := ⟨l[i]'(by omega), List.getElem?_eq_getElem (by omega)⟩
    obtain ⟨b1, c1, sp1, e1, _, m1, _, _⟩ := ho.has (by omega)
    cases e1
    obtain ⟨b2, c2, sp2, e2, _, m2, _, _⟩ := ho'.has (by omega)
    cases e2
    have hcc := cl_cells hx sp1
    have hdd := cl_cells hx sp2
    have hne := neq_self x
    simp only [fC] at hne
    simp -implicitDefEqProofs (disch := first | omega | (simp only [St.set_n, St.up_n, List.length_cons, List.length_nil]; omega)) only [go_sem, Nat.reduceAdd, Nat.reduceMul, Nat.reduceSub, Int.reduceAdd, Int.reduceMul, Int.reduceSub, Int.reduceNeg, Int.reduceToNat, q0, q1, q5, hlt, m1, m2, hcc, hdd, hne]
    exact ⟨l.length - (i + 1), by omega, i + 1, rfl, by omega, ⟨by simp -implicitDefEqProofs (disch := first | omega | (simp only [St.set_n, St.up_n, List.length_cons, List.length_nil]; omega)) only [go_sem, Nat.reduceAdd, Nat.reduceMul, Nat.reduceSub, Int.reduceAdd, Int.reduceMul, Int.reduceSub, Int.reduceNeg, Int.reduceToNat, q0], by simp -implicitDefEqProofs (disch := first | omega | (simp only [St.set_n, St.up_n, List.length_cons, List.length_nil]; omega)) only [go_sem, Nat.reduceAdd, Nat.reduceMul, Nat.reduceSub, Int.reduceAdd, Int.reduceMul, Int.reduceSub, Int.reduceNeg, Int.reduceToNat, q1], by simp -implicitDefEqProofs (disch := first | omega | (simp only [St.set_n, St.up_n, List.length_cons, List.length_nil]; omega)) only [go_sem, Nat.reduceAdd, Nat.reduceMul, Nat.reduceSub, Int.reduceAdd, Int.reduceMul, Int.reduceSub, Int.reduceNeg, Int.reduceToNat]; rfl, by simp -implicitDefEqProofs (disch := first | omega | (simp only [St.set_n, St.up_n, List.length_cons, List.length_nil]; omega)) only [go_sem, Nat.reduceAdd, Nat.reduceMul, Nat.reduceSub, Int.reduceAdd, Int.reduceMul, Int.reduceSub, Int.reduceNeg, Int.reduceToNat, hd]⟩, ⟨rfl⟩⟩
  · simp -implicitDefEqProofs (disch := first | omega | (simp only [St.set_n, St.up_n, List.length_cons, List.length_nil]; omega)) only [go_sem, Nat.reduceAdd, Nat.reduceMul, Nat.reduceSub, Int.reduceAdd, Int.reduceMul, Int.reduceSub, Int.reduceNeg, Int.reduceToNat, q0, q5, hlt, hd]
    exact hK
end
end Go.Proofs.Ytgcojbgkenndhaa
