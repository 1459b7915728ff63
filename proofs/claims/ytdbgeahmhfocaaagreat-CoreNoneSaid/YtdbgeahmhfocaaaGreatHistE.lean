/- Histories: 'End', by a walk. -/
import Derived.Test.YtdbgeahmhfocaaaGreatHistB
namespace Go.Proofs.YtdbgeahmhfocaaaGreat
set_option linter.unusedSimpArgs false
set_option linter.unusedVariables false
set_option maxRecDepth 100000
open Go Go.RowKit
section
variable {B : World} {σ τ : St} {K : Value → St → Prop}

theorem cnt_set {l : List Cl} {j : Nat} {c c' : Cl} (h : l[j]? = some c) (hth : c'.th = c.th) (t : Int) : cnt (l.set j c') t = cnt l t := by
  induction l generalizing j with
  | nil => simp at h
  | cons x l ih =>
    cases j with
    | zero => simp at h; subst h; simp only [cnt, List.set_cons_zero, List.filter_cons, hth]; split <;> rfl
    | succ j =>
      have := ih (by simpa using h)
      simp only [cnt, List.set_cons_succ, List.filter_cons] at this ⊢
      split <;> simp [this]
theorem fC_to (c : Cl) (x : Int) : fC { c with to := x } = (fC c).set 14 (.int .i64 x) := rfl
theorem flat_set' {α : Type} {f : α → List Value} {s : Nat} (hf : ∀ x, (f x).length = s) (l : List α) (sp : List Value) (i : Nat) (x x' : α) (j k : Nat) (v : Value) (h : l[i]? = some x) (hj : j < s) (hx : f x' = (f x).set j v) (hk : k = i * s + j) :
    (flat f l ++ sp).set k v = flat f (l.set i x') ++ sp := by subst hk; exact flat_set hf l sp i x x' j v h hj hx
theorem an_set {l : List Cl} (sp : List Value) {j : Nat} {c : Cl} (a : CAn) (hc : l[j]? = some c) :
    (((((((flat fC l ++ sp).set (j * 15 + 7) (.int .i64 a.err)).set (j * 15 + 7 + 1) (.int .i64 a.a)).set (j * 15 + 7 + 1 + 1) (.int .i64 a.b)).set (j * 15 + 7 + 1 + 1 + 1) (.string a.topic)).set (j * 15 + 7 + 1 + 1 + 1 + 1) (.string a.pay)).set (j * 15 + 7 + 1 + 1 + 1 + 1 + 1) (.bool a.kept)) = flat fC (l.set j { c with an := a }) ++ sp := by
  have hj := (List.getElem?_eq_some_iff.1 hc).1
  have hg : ∀ x : Cl, (l.set j x)[j]? = some x := fun x => List.getElem?_set_self hj
  rw [flat_set' fC_len l sp j c { c with an := { c.an with err := a.err } } 7 _ _ hc (by omega) rfl rfl,
    flat_set' fC_len _ sp j { c with an := { c.an with err := a.err } } { c with an := { c.an with err := a.err, a := a.a } } 8 _ _ (hg _) (by omega) rfl rfl,
    List.set_set, flat_set' fC_len _ sp j { c with an := { c.an with err := a.err, a := a.a } } { c with an := { c.an with err := a.err, a := a.a, b := a.b } } 9 _ _ (hg _) (by omega) rfl rfl,
    List.set_set, flat_set' fC_len _ sp j { c with an := { c.an with err := a.err, a := a.a, b := a.b } } { c with an := { c.an with err := a.err, a := a.a, b := a.b, topic := a.topic } } 10 _ _ (hg _) (by omega) rfl rfl,
    List.set_set, flat_set' fC_len _ sp j { c with an := { c.an with err := a.err, a := a.a, b := a.b, topic := a.topic } } { c with an := { c.an with err := a.err, a := a.a, b := a.b, topic := a.topic, pay := a.pay } } 11 _ _ (hg _) (by omega) rfl rfl,
    List.set_set, flat_set' fC_len _ sp j { c with an := { c.an with err := a.err, a := a.a, b := a.b, topic := a.topic, pay := a.pay } } { c with an := a } 12 _ _ (hg _) (by omega) rfl rfl, List.set_set]
theorem log_end_nil {id : Int} {a : CAn} (hK : ∀ k, σ.n ≤ k → K (.bool false) (σ.up k)) : Fn Tryz.prog B 34 #[.pointer none, .int .i64 id, .agg (fAn a).toArray] σ K := by
  refine Fn.of' is34 (by simp) fun hwf => ?_
  simp only [b34, Tryz.f34, Option.getD_some]
  simp -implicitDefEqProofs (disch := first | omega | (simp only [St.set_n, St.up_n, List.length_cons, List.length_nil]; omega)) only [go_sem, Nat.reduceAdd, Nat.reduceMul, Nat.reduceSub, Int.reduceAdd, Int.reduceMul, Int.reduceSub, Int.reduceNeg, Int.reduceToNat, fAn]
  exact ⟨_, To.same (fun d y h2 h3 => by simp -implicitDefEqProofs (disch := first | omega | (simp only [St.set_n, St.up_n, List.length_cons, List.length_nil]; omega)) only [go_sem, Nat.reduceAdd, Nat.reduceMul, Nat.reduceSub, Int.reduceAdd, Int.reduceMul, Int.reduceSub, Int.reduceNeg, Int.reduceToNat, h3]) hwf, hK _ (by simp only [St.up_n]; omega)⟩
theorem log_begin_nil {t : Int} {op : COp} (hK : ∀ k, σ.n ≤ k → K (.int .i64 0) (σ.up k)) : Fn Tryz.prog B 37 #[.pointer none, .int .i64 t, .agg (fOp op).toArray] σ K := by
  refine Fn.of' is37 (by simp) fun hwf => ?_
  simp only [b37, Tryz.f37, Option.getD_some]
  simp -implicitDefEqProofs (disch := first | omega | (simp only [St.set_n, St.up_n, List.length_cons, List.length_nil]; omega)) only [go_sem, Nat.reduceAdd, Nat.reduceMul, Nat.reduceSub, Int.reduceAdd, Int.reduceMul, Int.reduceSub, Int.reduceNeg, Int.reduceToNat, fOp]
  exact ⟨_, To.same (fun d y h2 h3 => by simp -implicitDefEqProofs (disch := first | omega | (simp only [St.set_n, St.up_n, List.length_cons, List.length_nil]; omega)) only [go_sem, Nat.reduceAdd, Nat.reduceMul, Nat.reduceSub, Int.reduceAdd, Int.reduceMul, Int.reduceSub, Int.reduceNeg, Int.reduceToNat, h3]) hwf, hK _ (by simp only [St.up_n]; omega)⟩
def Bad (l : List Cl) (id : Int) : Prop := id < 1 ∨ (l.length : Int) < id ∨ ∃ (j : Nat) (c : Cl), id = j + 1 ∧ l[j]? = some c ∧ c.to ≠ 0
set_option maxHeartbeats 4000000 in
theorem log_end_no {S : LS} {p : Nat} {id : Int} {a : CAn} (hm : σ.m p = some (.comp (LogR S p))) (hl : S.l.length ≤ 100000) (hb : Bad S.l id) (hid : -9223372036854775808 ≤ id)
    (hK : ∀ k, σ.n ≤ k → K (.bool false) (σ.up k)) : Fn Tryz.prog B 34 #[.pointer (some ⟨p, 0, none⟩), .int .i64 id, .agg (fAn a).toArray] σ K := by
  refine Fn.opnL hm is34 (by simp) fun sv mv τ hn O => ?_
  have hr := O.root
  have hpn := (O.wf.2 _ _ hr).2
  have hK' : ∀ k, σ.n ≤ k → K (.bool false) ((σ.set p (.comp (LogR S p))).up k) := fun k hk => by rw [St.set_same hm]; exact hK k hk
  obtain ⟨A, cap, rfl, _⟩ := O.own.is
  have O1 : LgO B σ ((τ.set τ.n (.raw (.cells (fAn a).toArray 64 (0, 0)))).up (τ.n + 1)) p S (.slice A S.l.length cap) mv := by
    have hwB := O.wf.1
    refine O.more ⟨by simp only [St.up_n]; omega, fun c x hc => ?_⟩ (fun c x hc => by have := (O.wf.2 _ _ hc).2; simp -implicitDefEqProofs (disch := first | omega | (simp only [St.set_n, St.up_n, List.length_cons, List.length_nil]; omega)) only [go_sem, Nat.reduceAdd, Nat.reduceMul, Nat.reduceSub, Int.reduceAdd, Int.reduceMul, Int.reduceSub, Int.reduceNeg, Int.reduceToNat, hc]) (by simp only [St.up_n]; omega)
    simp only [St.up_m, St.set] at hc
    simp only [St.up_n]
    split at hc
    · omega
    · have := O.wf.2 _ _ hc; omega
  simp only [b34, Tryz.f34, Option.getD_some]
  by_cases h1 : id < 1
  · simp -implicitDefEqProofs (disch := first | omega | (simp only [St.set_n, St.up_n, List.length_cons, List.length_nil]; omega)) only [go_sem, Nat.reduceAdd, Nat.reduceMul, Nat.reduceSub, Int.reduceAdd, Int.reduceMul, Int.reduceSub, Int.reduceNeg, Int.reduceToNat, fAn, hr, h1]
    exact O1.close hK'
  · by_cases h2 : (S.l.length : Int) < id
    · simp -implicitDefEqProofs (disch := first | omega | (simp only [St.set_n, St.up_n, List.length_cons, List.length_nil]; omega)) only [go_sem, Nat.reduceAdd, Nat.reduceMul, Nat.reduceSub, Int.reduceAdd, Int.reduceMul, Int.reduceSub, Int.reduceNeg, Int.reduceToNat, fAn, hr, h1, h2]
      exact O1.close hK'
    · obtain ⟨j, c, rfl, hc, hto⟩ := (hb.resolve_left h1).resolve_left h2
      have hj := (List.getElem?_eq_some_iff.1 hc).1
      obtain ⟨b, c1, sp, e1, _, mb, lb, _⟩ := O.own.has (by omega)
      cases e1
      have g := flat_get fC_len S.l sp j c 14 (.int .i64 c.to) hc rfl
      have hjj : (j : Int) + 1 - 1 = j := by omega
      have hjl : (j : Int) < S.l.length := by omega
      have hbn := O.wf.2 _ _ mb
      simp -implicitDefEqProofs (disch := first | omega | (simp only [St.set_n, St.up_n, List.length_cons, List.length_nil]; omega)) only [go_sem, Nat.reduceAdd, Nat.reduceMul, Nat.reduceSub, Int.reduceAdd, Int.reduceMul, Int.reduceSub, Int.reduceNeg, Int.reduceToNat, fAn, hr, h1, h2, mb, g, hto, hjj, hjl]
      exact O1.close hK'
set_option maxHeartbeats 4000000 in
theorem log_end {S : LS} {p : Nat} {id : Int} {j : Nat} {c : Cl} {a : CAn} (hm : σ.m p = some (.comp (LogR S p))) (hn1 : S.now ≤ 1000000) (hl : S.l.length ≤ 100000) (hid : id = (j : Int) + 1) (hc : S.l[j]? = some c) (hto : c.to = 0)
    (hK : ∀ k, σ.n ≤ k → K (.bool true) ((σ.set p (.comp (LogR ⟨S.l.set j { c with an := a, to := S.now + 1 }, S.now + 1⟩ p))).up k)) :
    Fn Tryz.prog B 34 #[.pointer (some ⟨p, 0, none⟩), .int .i64 id, .agg (fAn a).toArray] σ K := by
  refine Fn.opnL hm is34 (by simp) fun sv mv τ hn O => ?_
  subst hid
  have hr := O.root
  have hpn := O.wf.2 _ _ hr
  have hj := (List.getElem?_eq_some_iff.1 hc).1
  obtain ⟨b, c1, sp, rfl, hc1, mb, lb, _⟩ := O.own.has (by omega)
  have hbn := O.wf.2 _ _ mb
  have hbp : b ≠ p := fun e => O.offp (by rw [e]; rfl)
  have g := flat_get fC_len S.l sp j c 14 (.int .i64 c.to) hc rfl
  rw [hto] at g
  have hjj : (j : Int) + 1 - 1 = j := by omega
  have hjl : (j : Int) < S.l.length := by omega
  have h1 : ¬ (j : Int) + 1 < 1 := by omega
  have h2 : ¬ (S.l.length : Int) < (j : Int) + 1 := by omega
  have st1 := flat_set fC_len S.l sp j c { c with to := S.now + 1 } 14 (.int .i64 (S.now + 1)) hc (by omega) (fC_to c _)
  have lb2 : (flat fC (S.l.set j { c with to := S.now + 1 }) ++ sp).length = c1 * 15 := by rw [← st1, List.length_set]; exact lb
  simp only [b34, Tryz.f34, Option.getD_some]
  simp -implicitDefEqProofs (disch := first | omega | (simp only [St.set_n, St.up_n, List.length_cons, List.length_nil]; omega)) only [go_sem, Nat.reduceAdd, Nat.reduceMul, Nat.reduceSub, Int.reduceAdd, Int.reduceMul, Int.reduceSub, Int.reduceNeg, Int.reduceToNat, fAn, hr, h1, h2, mb, g, hjj, hjl]
  refine effD_plan [0, 0, 0, 4, 12, 28, 0, 61, 189, 445, 1023, 2047, 4095] [0, 1, 2, 3, 4, 5, 6, 7, 8, 10, 11] (.eag 0 (.eag 1 (.eag 2 (.eag 3 (.eag 4 (.eagq 5 (.eagq 6 (.eag 7 (.eag 8 (.alt 9 [6] (.eag 10 (.eag 11 (.alt 12 [] .fin .stop))) .stop)))))))))) (by kernel_rfl) ?_
  simp -implicitDefEqProofs (disch := first | omega | (simp only [St.set_n, St.up_n, List.length_cons, List.length_nil]; omega)) only [go_sem, Nat.reduceAdd, Nat.reduceMul, Nat.reduceSub, Int.reduceAdd, Int.reduceMul, Int.reduceSub, Int.reduceNeg, Int.reduceToNat, fAn, hr, h1, h2, mb, g, hjj, hjl, st1, hbp, lb, lb2]
  have hj2 : (S.l.set j { c with to := S.now + 1 })[j]? = some { c with to := S.now + 1 } := List.getElem?_set_self hj
  have st2 := an_set sp a hj2
  rw [List.set_set] at st2
  rw [st2]
  have hwB := O.wf.1
  refine LgO.close (S := ⟨S.l.set j { c with an := a, to := S.now + 1 }, S.now + 1⟩) (sv := .slice (some ⟨b, 0, none⟩) S.l.length c1) (mv := mv) ⟨⟨by simp only [St.up_n, St.set_n]; omega, fun d x hd => ?_⟩, by have := O.n; simp only [St.up_n, St.set_n]; omega, by simp -implicitDefEqProofs (disch := first | omega | (simp only [St.set_n, St.up_n, List.length_cons, List.length_nil]; omega)) only [go_sem, Nat.reduceAdd, Nat.reduceMul, Nat.reduceSub, Int.reduceAdd, Int.reduceMul, Int.reduceSub, Int.reduceNeg, Int.reduceToNat]; rfl, ?_, O.offp, ?_, fun d x hd hx => ?_⟩ hK
  · simp only [St.up_m, St.set] at hd
    simp only [St.up_n, St.set_n]
    split at hd
    · omega
    · split at hd
      · omega
      · split at hd
        · omega
        · have := O.wf.2 _ _ hd; omega
  · have e : (S.l.set j { c with an := a, to := S.now + 1 }).length = S.l.length := List.length_set
    show Own _ 69 15 (flat fC (S.l.set j { c with an := a, to := S.now + 1 })) (S.l.set j { c with an := a, to := S.now + 1 }).length _
    rw [e]
    refine Own.of' (sp := sp) (by simp -implicitDefEqProofs (disch := first | omega | (simp only [St.set_n, St.up_n, List.length_cons, List.length_nil]; omega)) only [go_sem, Nat.reduceAdd, Nat.reduceMul, Nat.reduceSub, Int.reduceAdd, Int.reduceMul, Int.reduceSub, Int.reduceNeg, Int.reduceToNat]) (by rw [flat_length fC_len, e]) hc1 (by rw [← st2]; simpa using lb2)
  · have hcnt : ∀ t, cnt (S.l.set j { c with an := a, to := S.now + 1 }) t = cnt S.l t := fun t => cnt_set (c' := { c with an := a, to := S.now + 1 }) hc rfl t
    rcases O.mp with ⟨h, hnil⟩ | ⟨b', mm, rfl, h1, h2, h3, h4⟩
    · rw [hnil] at hj; simp at hj
    · have hb' := (O.wf.2 _ _ h1).2
      have : b' ≠ b := fun e => h3 (by rw [e]; rfl)
      refine .inr ⟨b', mm, rfl, by simp -implicitDefEqProofs (disch := first | omega | (simp only [St.set_n, St.up_n, List.length_cons, List.length_nil]; omega)) only [go_sem, Nat.reduceAdd, Nat.reduceMul, Nat.reduceSub, Int.reduceAdd, Int.reduceMul, Int.reduceSub, Int.reduceNeg, Int.reduceToNat, h1], h2, h3, fun t => by rw [hcnt]; exact h4 t⟩
  · obtain ⟨h1, h2, h3⟩ := O.fr d x hd hx
    have := (O.wf.2 _ _ h1).2
    have hdb : d ≠ b := fun e => h2 (by rw [e]; rfl)
    exact ⟨by simp -implicitDefEqProofs (disch := first | omega | (simp only [St.set_n, St.up_n, List.length_cons, List.length_nil]; omega)) only [go_sem, Nat.reduceAdd, Nat.reduceMul, Nat.reduceSub, Int.reduceAdd, Int.reduceMul, Int.reduceSub, Int.reduceNeg, Int.reduceToNat, h1], h2, h3⟩
end
end Go.Proofs.YtdbgeahmhfocaaaGreat
