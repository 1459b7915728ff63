/- 'EpochSafe': its closure 'tell': the walk. -/
import Derived.Test.YtgcojbgkenndhaaEpochP
namespace Go.Proofs.Ytgcojbgkenndhaa
set_option linter.unusedSimpArgs false
set_option linter.unusedVariables false
set_option maxRecDepth 100000
open Go Go.RowKit
section
variable {B : World} {σ : St} {K : Value → St → Prop}

def fR (r : Row) : List Value := [.bool (r 0), .bool (r 1), .bool (r 2), .bool (r 3), .bool (r 4), .bool (r 5), .bool (r 6), .bool (r 7)]
theorem fR_len (r : Row) : (fR r).length = 8 := rfl
theorem fR_get (r : Row) {t : Nat} (ht : t < 8) : (fR r)[t]? = some (.bool (r t)) := by
  have : t = 0 ∨ t = 1 ∨ t = 2 ∨ t = 3 ∨ t = 4 ∨ t = 5 ∨ t = 6 ∨ t = 7 := by omega
  rcases this with rfl | rfl | rfl | rfl | rfl | rfl | rfl | rfl <;> rfl
theorem tellAll_snoc (a : List Int) (x : Int) (told : List Bool) : tellAll (a ++ [x]) told = (tellAll a told).set x.toNat true := by simp [tellAll, List.foldl_append]
theorem not_mem_take {α : Type} {a : List α} (h : a.Nodup) {i : Nat} {x : α} (hx : a[i]? = some x) : x ∉ a.take i := by
  intro hm
  have h2 := List.take_append_drop i a
  rw [← h2, List.nodup_append] at h
  exact h.2.2 x hm x (List.mem_of_getElem? (l := a.drop i) (i := 0) (by rw [List.getElem?_drop]; exact hx)) rfl
structure Te (av : Value) (aw ad i : Nat) (e : Fr) : Prop where
  v0 : e.v 0 = av
  v1 : e.v 1 = .pointer (some ⟨aw, 0, none⟩)
  v2 : e.v 2 = .pointer (some ⟨ad, 0, none⟩)
  v5 : e.v 5 = .int .i64 i
  d : e.d = []
structure Ts (σ : St) (tv : Value) (told : List Bool) (s : St) : Prop where
  own : Own s 4 1 (bools told) told.length tv
  n : s.n = σ.n
  old : ∀ c, blk tv ≠ some c → s.m c = σ.m c
structure Tj (av : Value) (aw ad i j : Nat) (s : St) (e : Fr) (s1 : St) : Prop where
  st : s1 = s
  te : Te av aw ad i e
  v6 : e.v 6 = .int .i64 j
set_option maxHeartbeats 4000000 in
theorem tell {a : List Int} {who : List Row} {told : List Bool} {av wv tv : Value} {aw ad : Nat} (hT : Tells a who told) (hal : a.length ≤ 100000) (hw : σ.m aw = some (.raw (.cells #[wv] 26 (0, 0)))) (hd : σ.m ad = some (.raw (.cells #[tv] 27 (0, 0))))
    (oa : Own σ 3 1 (ints a) a.length av) (ow : Own σ 29 8 (flat fR who) who.length wv) (ot : Own σ 4 1 (bools told) told.length tv) (dat : Dis av tv) (dwt : Dis wv tv) (hnw : blk tv ≠ some aw) (hnd : blk tv ≠ some ad)
    (hK : ∀ τ, Ts σ tv (tellAll a told) τ → K (.bool true) τ) : Fn Try.prog B 14 #[av, .pointer (some ⟨aw, 0, none⟩), .pointer (some ⟨ad, 0, none⟩)] σ K := by
  obtain ⟨A, ca, rfl, _⟩ := oa.is
  obtain ⟨Aw, cw, rfl, _⟩ := ow.is
  obtain ⟨At, ct, rfl, _⟩ := ot.is
  refine Fn.of is14 (by simp) fun hwf => ?_
  simp only [b14, Try.f14, Option.getD_some]
  simp -implicitDefEqProofs (disch := first | omega | (simp only [St.set_n, St.up_n, List.length_cons, List.length_nil]; omega)) only [go_sem, Nat.reduceAdd, Nat.reduceMul, Nat.reduceSub, Int.reduceAdd, Int.reduceMul, Int.reduceSub, Int.reduceNeg, Int.reduceToNat]
  refine loop_rule (fun m e s => ∃ i : Nat, m = a.length - i ∧ i ≤ a.length ∧ Te (.slice A a.length ca) aw ad i e ∧ Ts σ (.slice At told.length ct) (tellAll (a.take i) told) s) a.length ?_ ?_
  · exact ⟨0, by omega, by omega, ⟨by simp -implicitDefEqProofs (disch := first | omega | (simp only [St.set_n, St.up_n, List.length_cons, List.length_nil]; omega)) only [go_sem, Nat.reduceAdd, Nat.reduceMul, Nat.reduceSub, Int.reduceAdd, Int.reduceMul, Int.reduceSub, Int.reduceNeg, Int.reduceToNat], by simp -implicitDefEqProofs (disch := first | omega | (simp only [St.set_n, St.up_n, List.length_cons, List.length_nil]; omega)) only [go_sem, Nat.reduceAdd, Nat.reduceMul, Nat.reduceSub, Int.reduceAdd, Int.reduceMul, Int.reduceSub, Int.reduceNeg, Int.reduceToNat], by simp -implicitDefEqProofs (disch := first | omega | (simp only [St.set_n, St.up_n, List.length_cons, List.length_nil]; omega)) only [go_sem, Nat.reduceAdd, Nat.reduceMul, Nat.reduceSub, Int.reduceAdd, Int.reduceMul, Int.reduceSub, Int.reduceNeg, Int.reduceToNat], by simp -implicitDefEqProofs (disch := first | omega | (simp only [St.set_n, St.up_n, List.length_cons, List.length_nil]; omega)) only [go_sem, Nat.reduceAdd, Nat.reduceMul, Nat.reduceSub, Int.reduceAdd, Int.reduceMul, Int.reduceSub, Int.reduceNeg, Int.reduceToNat]; rfl, by simp -implicitDefEqProofs (disch := first | omega | (simp only [St.set_n, St.up_n, List.length_cons, List.length_nil]; omega)) only [go_sem, Nat.reduceAdd, Nat.reduceMul, Nat.reduceSub, Int.reduceAdd, Int.reduceMul, Int.reduceSub, Int.reduceNeg, Int.reduceToNat]⟩, ⟨ot, rfl, fun c _ => rfl⟩⟩
  rintro m e s hws ⟨i, hm, hi, ⟨q0, q1, q2, q5, hd'⟩, ⟨o1, hn1, hold⟩⟩
  rw [tellAll_len] at o1
  by_cases hlt : (i : Int) < a.length
  · obtain ⟨x, hx⟩ : ∃ x, a[i]? = some x := ⟨a[i]'(by omega), List.getElem?_eq_getElem (by omega)⟩
    obtain ⟨j, rfl, hj, hjt, hrow⟩ := hT.rng x (List.mem_of_getElem? hx)
    obtain ⟨r, hr⟩ : ∃ r, who[j]? = some r := ⟨who[j]'hj, List.getElem?_eq_getElem hj⟩
    have hrf := hrow r hr
    have hjl : j < told.length := (List.getElem?_eq_some_iff.1 hjt).1
    obtain ⟨ba, c1, spa, e1, _, ma, _, _⟩ := oa.has (by omega)
    cases e1
    obtain ⟨bw, c2, spw, e2, _, mw, _, _⟩ := ow.has (by omega)
    cases e2
    obtain ⟨bt, c3, spt, e3, _, mt, lt, _⟩ := o1.has (by omega)
    cases e3
    have ga : (ints a ++ spa)[i]? = some (.int .i64 j) := ints_get hx spa
    have hw1 := (hold aw hnw).trans hw
    have hd1 := (hold ad hnd).trans hd
    have ma1 := (hold ba (dat ba rfl)).trans ma
    have mw1 := (hold bw (dwt bw rfl)).trans mw
    have hjf : (tellAll (a.take i) told)[j]? = some false := by
      rw [tellAll_get _ (fun y hy => ?_) told j hjl, if_neg, hjt]
      · exact not_mem_take hT.nd hx
      · obtain ⟨j', e5, _⟩ := hT.rng y (List.mem_of_mem_take hy); omega
    have gt : (bools (tellAll (a.take i) told) ++ spt)[j]? = some (.bool false) := bools_get hjf spt
    have hjw : (j : Int) < who.length := by omega
    have hjl' : (j : Int) < told.length := by omega
    have hj0 : ¬ (j : Int) < 0 := by omega
    have hjw' : ¬ (who.length : Int) ≤ j := by omega
    have hba : ba ≠ bt := fun e => dat ba rfl (by simp [blk, e])
    have s1 := bools_set (l := tellAll (a.take i) told) (i := j) spt (by rw [tellAll_len]; exact hjl) true
    simp -implicitDefEqProofs (disch := first | omega | (simp only [St.set_n, St.up_n, List.length_cons, List.length_nil]; omega)) only [go_sem, Nat.reduceAdd, Nat.reduceMul, Nat.reduceSub, Int.reduceAdd, Int.reduceMul, Int.reduceSub, Int.reduceNeg, Int.reduceToNat, q0, q1, q2, q5, hlt, hw1, hd1, ma1, ga, mt, gt, hjw, hjl', hj0, hjw']
    refine effD_cut (by kernel_rfl) ?_
    simp -implicitDefEqProofs (disch := first | omega | (simp only [St.set_n, St.up_n, List.length_cons, List.length_nil]; omega)) only [go_sem, Nat.reduceAdd, Nat.reduceMul, Nat.reduceSub, Int.reduceAdd, Int.reduceMul, Int.reduceSub, Int.reduceNeg, Int.reduceToNat, q0, q5, hd1, ma1, ga, mt, lt, s1, hjl']
    have hF : Ts σ (.slice (some ⟨bt, 0, none⟩) told.length ct) (tellAll (a.take (i + 1)) told) (s.set bt (.raw (.cells (bools ((tellAll (a.take i) told).set j true) ++ spt).toArray 4 (0, 0)))) := by
      rw [take_snoc hx, tellAll_snoc]
      refine ⟨?_, hn1, fun c hc => ?_⟩
      · have e1 : ((tellAll (a.take i) told).set j true).length = told.length := by rw [List.length_set, tellAll_len]
        simp only [Int.toNat_natCast]
        rw [e1]
        exact Own.of' (sp := spt) (by simp -implicitDefEqProofs (disch := first | omega | (simp only [St.set_n, St.up_n, List.length_cons, List.length_nil]; omega)) only [go_sem, Nat.reduceAdd, Nat.reduceMul, Nat.reduceSub, Int.reduceAdd, Int.reduceMul, Int.reduceSub, Int.reduceNeg, Int.reduceToNat]) (by simp [bools, tellAll_len]) (by assumption) (by simpa [bools] using lt)
      · have : c ≠ bt := fun e => hc (by simp [blk, e])
        rw [St.set_m_ne _ _ this]; exact hold c hc
    have hw2 := (hF.old aw hnw).trans hw
    have ma2 := (hF.old ba (dat ba rfl)).trans ma
    have mw2 := (hF.old bw (dwt bw rfl)).trans mw
    generalize s.set bt (.raw (.cells (bools ((tellAll (a.take i) told).set j true) ++ spt).toArray 4 (0, 0))) = s2 at hF hw2 ma2 mw2 ⊢
    refine loop_rule (fun m e s1 => ∃ t : Nat, m = 8 - t ∧ t ≤ 8 ∧ Tj (.slice (some ⟨ba, 0, none⟩) a.length ca) aw ad i t s2 e s1) 8 ?_ ?_
    · exact ⟨0, by omega, by omega, rfl, ⟨by simp -implicitDefEqProofs (disch := first | omega | (simp only [St.set_n, St.up_n, List.length_cons, List.length_nil]; omega)) only [go_sem, Nat.reduceAdd, Nat.reduceMul, Nat.reduceSub, Int.reduceAdd, Int.reduceMul, Int.reduceSub, Int.reduceNeg, Int.reduceToNat, q0], by simp -implicitDefEqProofs (disch := first | omega | (simp only [St.set_n, St.up_n, List.length_cons, List.length_nil]; omega)) only [go_sem, Nat.reduceAdd, Nat.reduceMul, Nat.reduceSub, Int.reduceAdd, Int.reduceMul, Int.reduceSub, Int.reduceNeg, Int.reduceToNat, q1], by simp -implicitDefEqProofs (disch := first | omega | (simp only [St.set_n, St.up_n, List.length_cons, List.length_nil]; omega)) only [go_sem, Nat.reduceAdd, Nat.reduceMul, Nat.reduceSub, Int.reduceAdd, Int.reduceMul, Int.reduceSub, Int.reduceNeg, Int.reduceToNat, q2], by simp -implicitDefEqProofs (disch := first | omega | (simp only [St.set_n, St.up_n, List.length_cons, List.length_nil]; omega)) only [go_sem, Nat.reduceAdd, Nat.reduceMul, Nat.reduceSub, Int.reduceAdd, Int.reduceMul, Int.reduceSub, Int.reduceNeg, Int.reduceToNat, q5], by simp -implicitDefEqProofs (disch := first | omega | (simp only [St.set_n, St.up_n, List.length_cons, List.length_nil]; omega)) only [go_sem, Nat.reduceAdd, Nat.reduceMul, Nat.reduceSub, Int.reduceAdd, Int.reduceMul, Int.reduceSub, Int.reduceNeg, Int.reduceToNat, hd']⟩, by simp -implicitDefEqProofs (disch := first | omega | (simp only [St.set_n, St.up_n, List.length_cons, List.length_nil]; omega)) only [go_sem, Nat.reduceAdd, Nat.reduceMul, Nat.reduceSub, Int.reduceAdd, Int.reduceMul, Int.reduceSub, Int.reduceNeg, Int.reduceToNat]; rfl⟩
    · rintro m e s1 hw1 ⟨t, hm', ht, rfl, ⟨q0, q1, q2, q5, hd'⟩, q6⟩
      by_cases htl : (t : Int) < 8
      · have gr : (flat fR who ++ spw)[j * 8 + t]? = some (.bool false) := by
          rw [← hrf t (by omega)]
          exact flat_get fR_len who spw j r t _ hr (fR_get r (by omega))
        simp -implicitDefEqProofs (disch := first | omega | (simp only [St.set_n, St.up_n, List.length_cons, List.length_nil]; omega)) only [go_sem, Nat.reduceAdd, Nat.reduceMul, Nat.reduceSub, Int.reduceAdd, Int.reduceMul, Int.reduceSub, Int.reduceNeg, Int.reduceToNat, q0, q1, q2, q5, q6, htl, hw2, ma2, ga, mw2, gr, hjw]
        exact ⟨8 - (t + 1), by omega, t + 1, rfl, by omega, rfl, ⟨by simp -implicitDefEqProofs (disch := first | omega | (simp only [St.set_n, St.up_n, List.length_cons, List.length_nil]; omega)) only [go_sem, Nat.reduceAdd, Nat.reduceMul, Nat.reduceSub, Int.reduceAdd, Int.reduceMul, Int.reduceSub, Int.reduceNeg, Int.reduceToNat, q0], by simp -implicitDefEqProofs (disch := first | omega | (simp only [St.set_n, St.up_n, List.length_cons, List.length_nil]; omega)) only [go_sem, Nat.reduceAdd, Nat.reduceMul, Nat.reduceSub, Int.reduceAdd, Int.reduceMul, Int.reduceSub, Int.reduceNeg, Int.reduceToNat, q1], by simp -implicitDefEqProofs (disch := first | omega | (simp only [St.set_n, St.up_n, List.length_cons, List.length_nil]; omega)) only [go_sem, Nat.reduceAdd, Nat.reduceMul, Nat.reduceSub, Int.reduceAdd, Int.reduceMul, Int.reduceSub, Int.reduceNeg, Int.reduceToNat, q2], by simp -implicitDefEqProofs (disch := first | omega | (simp only [St.set_n, St.up_n, List.length_cons, List.length_nil]; omega)) only [go_sem, Nat.reduceAdd, Nat.reduceMul, Nat.reduceSub, Int.reduceAdd, Int.reduceMul, Int.reduceSub, Int.reduceNeg, Int.reduceToNat, q5], by simp -implicitDefEqProofs (disch := first | omega | (simp only [St.set_n, St.up_n, List.length_cons, List.length_nil]; omega)) only [go_sem, Nat.reduceAdd, Nat.reduceMul, Nat.reduceSub, Int.reduceAdd, Int.reduceMul, Int.reduceSub, Int.reduceNeg, Int.reduceToNat, hd']⟩, by simp -implicitDefEqProofs (disch := first | omega | (simp only [St.set_n, St.up_n, List.length_cons, List.length_nil]; omega)) only [go_sem, Nat.reduceAdd, Nat.reduceMul, Nat.reduceSub, Int.reduceAdd, Int.reduceMul, Int.reduceSub, Int.reduceNeg, Int.reduceToNat]; rfl⟩
      · simp -implicitDefEqProofs (disch := first | omega | (simp only [St.set_n, St.up_n, List.length_cons, List.length_nil]; omega)) only [go_sem, Nat.reduceAdd, Nat.reduceMul, Nat.reduceSub, Int.reduceAdd, Int.reduceMul, Int.reduceSub, Int.reduceNeg, Int.reduceToNat, q0, q1, q2, q5, q6, htl]
        exact ⟨a.length - (i + 1), by omega, i + 1, rfl, by omega, ⟨by simp -implicitDefEqProofs (disch := first | omega | (simp only [St.set_n, St.up_n, List.length_cons, List.length_nil]; omega)) only [go_sem, Nat.reduceAdd, Nat.reduceMul, Nat.reduceSub, Int.reduceAdd, Int.reduceMul, Int.reduceSub, Int.reduceNeg, Int.reduceToNat, q0], by simp -implicitDefEqProofs (disch := first | omega | (simp only [St.set_n, St.up_n, List.length_cons, List.length_nil]; omega)) only [go_sem, Nat.reduceAdd, Nat.reduceMul, Nat.reduceSub, Int.reduceAdd, Int.reduceMul, Int.reduceSub, Int.reduceNeg, Int.reduceToNat, q1], by simp -implicitDefEqProofs (disch := first | omega | (simp only [St.set_n, St.up_n, List.length_cons, List.length_nil]; omega)) only [go_sem, Nat.reduceAdd, Nat.reduceMul, Nat.reduceSub, Int.reduceAdd, Int.reduceMul, Int.reduceSub, Int.reduceNeg, Int.reduceToNat, q2], by simp -implicitDefEqProofs (disch := first | omega | (simp only [St.set_n, St.up_n, List.length_cons, List.length_nil]; omega)) only [go_sem, Nat.reduceAdd, Nat.reduceMul, Nat.reduceSub, Int.reduceAdd, Int.reduceMul, Int.reduceSub, Int.reduceNeg, Int.reduceToNat]; rfl, by simp -implicitDefEqProofs (disch := first | omega | (simp only [St.set_n, St.up_n, List.length_cons, List.length_nil]; omega)) only [go_sem, Nat.reduceAdd, Nat.reduceMul, Nat.reduceSub, Int.reduceAdd, Int.reduceMul, Int.reduceSub, Int.reduceNeg, Int.reduceToNat, hd']⟩, hF⟩
  · have hie : i = a.length := by omega
    subst hie
    simp -implicitDefEqProofs (disch := first | omega | (simp only [St.set_n, St.up_n, List.length_cons, List.length_nil]; omega)) only [go_sem, Nat.reduceAdd, Nat.reduceMul, Nat.reduceSub, Int.reduceAdd, Int.reduceMul, Int.reduceSub, Int.reduceNeg, Int.reduceToNat, q0, q1, q2, q5, hlt, hd']
    rw [List.take_length] at o1
    exact hK _ ⟨by rw [tellAll_len]; exact o1, hn1, hold⟩
end
end Go.Proofs.Ytgcojbgkenndhaa
