/- Histories: 'Right', by walks. -/
import Derived.Test.YtgcojbgkenndhaaHistP
namespace Go.Proofs.Ytgcojbgkenndhaa
set_option pp.deepTerms false
set_option pp.deepTerms.threshold 8
set_option linter.unusedSimpArgs false
set_option linter.unusedVariables false
set_option maxRecDepth 100000
open Go Go.RowKit
section
variable {B : World} {σ τ : St} {K : Value → St → Prop}

/-- A slice from which these calls can be read. -/
def Sq (B : World) (σ : St) (l : List Cl) (v : Value) : Prop :=
  ∃ a cap, v = .slice a l.length cap ∧ l.length ≤ cap ∧ ∀ (i : Nat) (c : Cl), l[i]? = some c → ∃ b o, a = some ⟨b, o, none⟩ ∧ b < σ.n ∧ ∀ (j : Nat) (x : Value), (fC c)[j]? = some x → rdK B b (o + i * 15 + j) (σ.m b) = some x
theorem Own.sq {l : List Cl} {v : Value} (h : Own σ 65 15 (flat fC l) l.length v) (hwf : σ.wf B) : Sq B σ l v := by
  obtain ⟨a, cap, rfl, hc⟩ := h.is
  refine ⟨a, cap, rfl, hc, fun i c hi => ?_⟩
  have hil := (List.getElem?_eq_some_iff.1 hi).1
  obtain ⟨b, c1, sp, e, _, hm, _⟩ := h.has (by omega)
  cases e
  refine ⟨b, 0, rfl, (hwf.2 _ _ hm).2, fun j x hj => ?_⟩
  rw [hm, rdK_raw, List.getElem?_toArray, Nat.zero_add]
  exact flat_get fC_len l sp i c j x hi hj
theorem Sq.keep {l : List Cl} {v : Value} (h : Sq B σ l v) (hk : ∀ b, blk v = some b → b < σ.n → τ.m b = σ.m b) (hn : σ.n ≤ τ.n) : Sq B τ l v := by
  obtain ⟨a, cap, rfl, hc, h⟩ := h
  refine ⟨a, cap, rfl, hc, fun i c hi => ?_⟩
  obtain ⟨b, o, rfl, hb, h⟩ := h i c hi
  exact ⟨b, o, rfl, by omega, fun j x hj => by rw [hk b rfl hb]; exact h j x hj⟩
theorem sq_cells {b o i : Nat} {c : Cl} (h : ∀ (j : Nat) (x : Value), (fC c)[j]? = some x → rdK B b (o + i * 15 + j) (σ.m b) = some x) : rdK B b (o + i * 15) (σ.m b) = some (.int .i64 c.th) ∧ rdK B b (o + i * 15 + 1) (σ.m b) = some (.int .i64 c.pl) ∧ rdK B b (o + i * 15 + 2) (σ.m b) = some (.int .i64 c.op.kind) ∧ rdK B b (o + i * 15 + 3) (σ.m b) = some (.int .i64 c.op.sub) ∧ rdK B b (o + i * 15 + 4) (σ.m b) = some (.string c.op.text) ∧ rdK B b (o + i * 15 + 5) (σ.m b) = some (.string c.op.pay) ∧ rdK B b (o + i * 15 + 6) (σ.m b) = some (.bool c.op.keep) ∧ rdK B b (o + i * 15 + 7) (σ.m b) = some (.int .i64 c.an.err) ∧ rdK B b (o + i * 15 + 8) (σ.m b) = some (.int .i64 c.an.a) ∧ rdK B b (o + i * 15 + 9) (σ.m b) = some (.int .i64 c.an.b) ∧ rdK B b (o + i * 15 + 10) (σ.m b) = some (.string c.an.topic) ∧ rdK B b (o + i * 15 + 11) (σ.m b) = some (.string c.an.pay) ∧ rdK B b (o + i * 15 + 12) (σ.m b) = some (.bool c.an.kept) ∧ rdK B b (o + i * 15 + 13) (σ.m b) = some (.int .i64 c.fr) ∧ rdK B b (o + i * 15 + 14) (σ.m b) = some (.int .i64 c.to) :=
  ⟨h 0 _ rfl, h 1 _ rfl, h 2 _ rfl, h 3 _ rfl, h 4 _ rfl, h 5 _ rfl, h 6 _ rfl, h 7 _ rfl, h 8 _ rfl, h 9 _ rfl, h 10 _ rfl, h 11 _ rfl, h 12 _ rfl, h 13 _ rfl, h 14 _ rfl⟩
theorem hist_ahead {a b : Cl} (hK : ∀ k, σ.n ≤ k → K (.bool (decide (a.to < b.fr))) (σ.up k)) : Fn Try.prog B 39 #[.agg (fC a).toArray, .agg (fC b).toArray] σ K := by
  refine Fn.of' is39 (by simp) fun hwf => ?_
  simp only [b39, Try.f39, Option.getD_some]
  simp -implicitDefEqProofs (disch := first | omega | (simp only [St.set_n, St.up_n, List.length_cons, List.length_nil]; omega)) only [go_sem, Nat.reduceAdd, Nat.reduceMul, Nat.reduceSub, Int.reduceAdd, Int.reduceMul, Int.reduceSub, Int.reduceNeg, Int.reduceToNat, fC]
  exact ⟨_, To.same (fun d y h2 h3 => by simp -implicitDefEqProofs (disch := first | omega | (simp only [St.set_n, St.up_n, List.length_cons, List.length_nil]; omega)) only [go_sem, Nat.reduceAdd, Nat.reduceMul, Nat.reduceSub, Int.reduceAdd, Int.reduceMul, Int.reduceSub, Int.reduceNeg, Int.reduceToNat, h3]) hwf, hK _ (by simp only [St.up_n]; omega)⟩
def callV (o : Option Cl) : Option Value := o.map fun c => .agg (fC c).toArray
structure RtI (B : World) (σ : St) (l : List Cl) (x3 x4 : Nat) (A : Option Addr) (cap i : Nat) (e : Fr) (s : St) : Prop where
  v0 : e.v 0 = .slice A l.length cap
  v3 : e.v 3 = .map (some x3)
  v4 : e.v 4 = .map (some x4)
  v11 : e.v 11 = .slice A l.length cap
  v12 : e.v 12 = .int .i64 l.length
  v13 : e.v 13 = .int .i64 i
  d : e.d = []
  n : x3 < x4 ∧ x4 < s.n ∧ σ.n ≤ x3
  old : ∀ b, b < σ.n → s.m b = σ.m b
  rt : RtTo l i
  m3 : ∃ sm, s.m x3 = some (.raw (mapO sm)) ∧ ∀ x, ∃ t, (mget sm x).getD (.bool false) = .bool t ∧ (t = true ↔ Sn l i x)
  m4 : ∃ lm, s.m x4 = some (.raw (mapO lm)) ∧ ∀ t, mget lm t = callV (lst (l.take i) t)
set_option maxHeartbeats 8000000 in
open Classical in
theorem hist_right {l : List Cl} {v : Value} (hl : l.length ≤ 100000) (ho : Sq B σ l v) (hK : ∀ k, σ.n ≤ k → K (.bool (decide (Rt l))) (σ.up k)) : Fn Try.prog B 37 #[v] σ K := by
  obtain ⟨A, cap, rfl, hc, ho⟩ := ho
  refine Fn.of' is37 (by simp) fun hwf => ?_
  simp only [b37, Try.f37, Option.getD_some]
  simp -implicitDefEqProofs (disch := first | omega | (simp only [St.set_n, St.up_n, List.length_cons, List.length_nil]; omega)) only [go_sem, Nat.reduceAdd, Nat.reduceMul, Nat.reduceSub, Int.reduceAdd, Int.reduceMul, Int.reduceSub, Int.reduceNeg, Int.reduceToNat]
  refine loop_rule (fun m e s => ∃ i : Nat, m = l.length - i ∧ i ≤ l.length ∧ RtI B σ l σ.n (σ.n + 1) A cap i e s) l.length ?_ ?_
  · refine ⟨0, by omega, by omega, ⟨by simp -implicitDefEqProofs (disch := first | omega | (simp only [St.set_n, St.up_n, List.length_cons, List.length_nil]; omega)) only [go_sem, Nat.reduceAdd, Nat.reduceMul, Nat.reduceSub, Int.reduceAdd, Int.reduceMul, Int.reduceSub, Int.reduceNeg, Int.reduceToNat], by simp -implicitDefEqProofs (disch := first | omega | (simp only [St.set_n, St.up_n, List.length_cons, List.length_nil]; omega)) only [go_sem, Nat.reduceAdd, Nat.reduceMul, Nat.reduceSub, Int.reduceAdd, Int.reduceMul, Int.reduceSub, Int.reduceNeg, Int.reduceToNat], by simp -implicitDefEqProofs (disch := first | omega | (simp only [St.set_n, St.up_n, List.length_cons, List.length_nil]; omega)) only [go_sem, Nat.reduceAdd, Nat.reduceMul, Nat.reduceSub, Int.reduceAdd, Int.reduceMul, Int.reduceSub, Int.reduceNeg, Int.reduceToNat], by simp -implicitDefEqProofs (disch := first | omega | (simp only [St.set_n, St.up_n, List.length_cons, List.length_nil]; omega)) only [go_sem, Nat.reduceAdd, Nat.reduceMul, Nat.reduceSub, Int.reduceAdd, Int.reduceMul, Int.reduceSub, Int.reduceNeg, Int.reduceToNat], by simp -implicitDefEqProofs (disch := first | omega | (simp only [St.set_n, St.up_n, List.length_cons, List.length_nil]; omega)) only [go_sem, Nat.reduceAdd, Nat.reduceMul, Nat.reduceSub, Int.reduceAdd, Int.reduceMul, Int.reduceSub, Int.reduceNeg, Int.reduceToNat], by simp -implicitDefEqProofs (disch := first | omega | (simp only [St.set_n, St.up_n, List.length_cons, List.length_nil]; omega)) only [go_sem, Nat.reduceAdd, Nat.reduceMul, Nat.reduceSub, Int.reduceAdd, Int.reduceMul, Int.reduceSub, Int.reduceNeg, Int.reduceToNat]; rfl, by simp -implicitDefEqProofs (disch := first | omega | (simp only [St.set_n, St.up_n, List.length_cons, List.length_nil]; omega)) only [go_sem, Nat.reduceAdd, Nat.reduceMul, Nat.reduceSub, Int.reduceAdd, Int.reduceMul, Int.reduceSub, Int.reduceNeg, Int.reduceToNat], by simp only [St.up_n]; omega, fun b hb => by simp -implicitDefEqProofs (disch := first | omega | (simp only [St.set_n, St.up_n, List.length_cons, List.length_nil]; omega)) only [go_sem, Nat.reduceAdd, Nat.reduceMul, Nat.reduceSub, Int.reduceAdd, Int.reduceMul, Int.reduceSub, Int.reduceNeg, Int.reduceToNat], RtTo.zero, ⟨[], by simp -implicitDefEqProofs (disch := first | omega | (simp only [St.set_n, St.up_n, List.length_cons, List.length_nil]; omega)) only [go_sem, Nat.reduceAdd, Nat.reduceMul, Nat.reduceSub, Int.reduceAdd, Int.reduceMul, Int.reduceSub, Int.reduceNeg, Int.reduceToNat], fun x => ⟨false, rfl, by simp [Sn]⟩⟩, ⟨[], by simp -implicitDefEqProofs (disch := first | omega | (simp only [St.set_n, St.up_n, List.length_cons, List.length_nil]; omega)) only [go_sem, Nat.reduceAdd, Nat.reduceMul, Nat.reduceSub, Int.reduceAdd, Int.reduceMul, Int.reduceSub, Int.reduceNeg, Int.reduceToNat], fun t => rfl⟩⟩⟩
  · rintro m e s hws ⟨i, hm, hi, ⟨q0, q3, q4, q11, q12, q13, hd, ⟨n1, n2, n3⟩, hold, hrt, ⟨sm, hsm, hseen⟩, ⟨lm, hlm, hlast⟩⟩⟩
    by_cases hlt : (i : Int) < l.length
    · obtain ⟨c, hci⟩ : ∃ x, l[i]? = some x := ⟨l[i]'(by omega), List.getElem?_eq_getElem (by omega)⟩
      obtain ⟨b, o, rfl, hb, hcell⟩ := ho i c hci
      rw [← hold b hb] at hcell
      have hcc := sq_cells hcell
      have hoc := okC_iff hrt hci
      have no : ¬ OkC l i c → ∀ k, σ.n ≤ k → K (.bool false) (σ.up k) := fun h k hk => by
        have := hK k hk
        rwa [decide_eq_false (not_rt hci h)] at this
      obtain ⟨t1, g1, u1⟩ := hseen c.fr
      obtain ⟨t2, g2, u2⟩ := hseen c.to
      by_cases f1 : c.fr < 1
      · simp -implicitDefEqProofs (disch := first | omega | (simp only [St.set_n, St.up_n, List.length_cons, List.length_nil]; omega)) only [go_sem, Nat.reduceAdd, Nat.reduceMul, Nat.reduceSub, Int.reduceAdd, Int.reduceMul, Int.reduceSub, Int.reduceNeg, Int.reduceToNat, q0, q3, q4, q11, q12, q13, hlt, hcc, f1, hd]
        exact ⟨_, To.same (fun d y h2 h3 => by have := hold d h2; simp -implicitDefEqProofs (disch := first | omega | (simp only [St.set_n, St.up_n, List.length_cons, List.length_nil]; omega)) only [go_sem, Nat.reduceAdd, Nat.reduceMul, Nat.reduceSub, Int.reduceAdd, Int.reduceMul, Int.reduceSub, Int.reduceNeg, Int.reduceToNat, this, h3]) hwf, no (fun h => by have := h.f1; omega) _ (by simp only [St.up_n, St.set_n]; omega)⟩
      by_cases f2 : c.to ≤ c.fr
      · simp -implicitDefEqProofs (disch := first | omega | (simp only [St.set_n, St.up_n, List.length_cons, List.length_nil]; omega)) only [go_sem, Nat.reduceAdd, Nat.reduceMul, Nat.reduceSub, Int.reduceAdd, Int.reduceMul, Int.reduceSub, Int.reduceNeg, Int.reduceToNat, q0, q3, q4, q11, q12, q13, hlt, hcc, f1, f2, hd]
        exact ⟨_, To.same (fun d y h2 h3 => by have := hold d h2; simp -implicitDefEqProofs (disch := first | omega | (simp only [St.set_n, St.up_n, List.length_cons, List.length_nil]; omega)) only [go_sem, Nat.reduceAdd, Nat.reduceMul, Nat.reduceSub, Int.reduceAdd, Int.reduceMul, Int.reduceSub, Int.reduceNeg, Int.reduceToNat, this, h3]) hwf, no (fun h => by have := h.f2; omega) _ (by simp only [St.up_n, St.set_n]; omega)⟩
      cases t1 with
      | true =>
        simp -implicitDefEqProofs (disch := first | omega | (simp only [St.set_n, St.up_n, List.length_cons, List.length_nil]; omega)) only [go_sem, Nat.reduceAdd, Nat.reduceMul, Nat.reduceSub, Int.reduceAdd, Int.reduceMul, Int.reduceSub, Int.reduceNeg, Int.reduceToNat, q0, q3, q4, q11, q12, q13, hlt, hcc, f1, f2, hsm, g1, hd]
        exact ⟨_, To.same (fun d y h2 h3 => by have := hold d h2; simp -implicitDefEqProofs (disch := first | omega | (simp only [St.set_n, St.up_n, List.length_cons, List.length_nil]; omega)) only [go_sem, Nat.reduceAdd, Nat.reduceMul, Nat.reduceSub, Int.reduceAdd, Int.reduceMul, Int.reduceSub, Int.reduceNeg, Int.reduceToNat, this, h3]) hwf, no (fun h => (hoc.1 h).2.2.1 (u1.1 rfl)) _ (by simp only [St.up_n, St.set_n]; omega)⟩
      | false =>
      cases t2 with
      | true =>
        simp -implicitDefEqProofs (disch := first | omega | (simp only [St.set_n, St.up_n, List.length_cons, List.length_nil]; omega)) only [go_sem, Nat.reduceAdd, Nat.reduceMul, Nat.reduceSub, Int.reduceAdd, Int.reduceMul, Int.reduceSub, Int.reduceNeg, Int.reduceToNat, q0, q3, q4, q11, q12, q13, hlt, hcc, f1, f2, hsm, g1, g2, hd]
        exact ⟨_, To.same (fun d y h2 h3 => by have := hold d h2; simp -implicitDefEqProofs (disch := first | omega | (simp only [St.set_n, St.up_n, List.length_cons, List.length_nil]; omega)) only [go_sem, Nat.reduceAdd, Nat.reduceMul, Nat.reduceSub, Int.reduceAdd, Int.reduceMul, Int.reduceSub, Int.reduceNeg, Int.reduceToNat, this, h3]) hwf, no (fun h => (hoc.1 h).2.2.2.1 (u2.1 rfl)) _ (by simp only [St.up_n, St.set_n]; omega)⟩
      | false =>
      have s1 : ¬ Sn l i c.fr := fun h => by cases u1.2 h
      have s2 : ¬ Sn l i c.to := fun h => by cases u2.2 h
      by_cases f5 : ∃ d, 0 < i ∧ l[i - 1]? = some d ∧ c.fr ≤ d.fr
      · obtain ⟨d, hi0, hdi, hle⟩ := f5
        obtain ⟨_, _, e0, _, hdcell⟩ := ho (i - 1) d hdi
        cases e0
        rw [← hold b hb] at hdcell
        have hdd := sq_cells hdcell
        have e1 : (i : Int) - 1 = ((i - 1 : Nat) : Int) := by omega
        have hi0' : (0 : Int) < i := by omega
        have hi1 : ((i - 1 : Nat) : Int) < l.length := by omega
        simp -implicitDefEqProofs (disch := first | omega | (simp only [St.set_n, St.up_n, List.length_cons, List.length_nil]; omega)) only [go_sem, Nat.reduceAdd, Nat.reduceMul, Nat.reduceSub, Int.reduceAdd, Int.reduceMul, Int.reduceSub, Int.reduceNeg, Int.reduceToNat, q0, q3, q4, q11, q12, q13, hlt, hcc, hdd, f1, f2, hsm, g1, g2, hd, hi0', e1, hi1, hle]
        exact ⟨_, To.same (fun d y h2 h3 => by have := hold d h2; simp -implicitDefEqProofs (disch := first | omega | (simp only [St.set_n, St.up_n, List.length_cons, List.length_nil]; omega)) only [go_sem, Nat.reduceAdd, Nat.reduceMul, Nat.reduceSub, Int.reduceAdd, Int.reduceMul, Int.reduceSub, Int.reduceNeg, Int.reduceToNat, this, h3]) hwf, no (fun h => by have := h.inc d hi0 hdi; omega) _ (by simp only [St.up_n, St.set_n]; omega)⟩
      have f5' : ∀ d, 0 < i → l[i - 1]? = some d → d.fr < c.fr := fun d h1 h2 => by
        rcases Int.lt_or_le d.fr c.fr with h | h
        · exact h
        · exact absurd ⟨d, h1, h2, h⟩ f5
      have hsm2 : ∀ x, ∃ t, (mget (mput (mput sm c.fr (.bool true)) c.to (.bool true)) x).getD (.bool false) = .bool t ∧ (t = true ↔ Sn l (i + 1) x) := fun x => by
        obtain ⟨t, g, u⟩ := hseen x
        rw [mget_put, mget_put]
        by_cases h1 : x = c.to
        · exact ⟨true, by simp [h1], by simp [Sn.succ hci, h1]⟩
        · by_cases h2 : x = c.fr
          · exact ⟨true, by simp [h2], by simp [Sn.succ hci, h2]⟩
          · exact ⟨t, by simp only [h1, h2, if_false]; exact g, by rw [Sn.succ hci, u]; simp [h1, h2]⟩
      have hlm2 : ∀ t, mget (mput lm c.th (.agg (fC c).toArray)) t = callV (lst (l.take (i + 1)) t) := fun t => by
        rw [mget_put, take_snoc' hci, lst_append]
        by_cases h1 : t = c.th
        · subst h1; simp [callV]
        · rw [if_neg h1, if_neg (Ne.symm h1)]; exact hlast t
      have hlc := hlast c.th
      by_cases hi0 : (0 : Int) < i
      case' pos =>
        obtain ⟨d, hdi⟩ : ∃ x, l[i - 1]? = some x := ⟨l[i - 1]'(by omega), List.getElem?_eq_getElem (by omega)⟩
        obtain ⟨_, _, e0, _, hdcell⟩ := ho (i - 1) d hdi
        cases e0
        rw [← hold b hb] at hdcell
        have hdd := sq_cells hdcell
        have e1 : (i : Int) - 1 = ((i - 1 : Nat) : Int) := by omega
        have hi1 : ((i - 1 : Nat) : Int) < l.length := by omega
        have hle := f5' d (by omega) hdi
        simp -implicitDefEqProofs (disch := first | omega | (simp only [St.set_n, St.up_n, List.length_cons, List.length_nil]; omega)) only [go_sem, Nat.reduceAdd, Nat.reduceMul, Nat.reduceSub, Int.reduceAdd, Int.reduceMul, Int.reduceSub, Int.reduceNeg, Int.reduceToNat, q0, q3, q4, q11, q12, q13, hlt, hcc, hdd, f1, f2, hsm, g1, g2, hd, hi0, e1, hi1, hle]
      case' neg =>
        simp -implicitDefEqProofs (disch := first | omega | (simp only [St.set_n, St.up_n, List.length_cons, List.length_nil]; omega)) only [go_sem, Nat.reduceAdd, Nat.reduceMul, Nat.reduceSub, Int.reduceAdd, Int.reduceMul, Int.reduceSub, Int.reduceNeg, Int.reduceToNat, q0, q3, q4, q11, q12, q13, hlt, hcc, f1, f2, hsm, g1, g2, hd, hi0]
      all_goals
        refine effD_plan [0, 0, 2, 0, 0, 16, 7, 127] [0, 1, 2, 3, 4, 5] (.eag 0 (.eag 1 (.eagq 2 (.eag 3 (.eag 4 (.eagq 5 (.alt 6 [5] (.alt 7 [] .fin .stop) .stop))))))) (by kernel_rfl) ?_
        cases hw : lst (l.take i) c.th with
        | none =>
          rw [hw] at hlc
          simp only [callV, Option.map_none] at hlc
          simp -implicitDefEqProofs (disch := first | omega | (simp only [St.set_n, St.up_n, List.length_cons, List.length_nil]; omega)) only [go_sem, Nat.reduceAdd, Nat.reduceMul, Nat.reduceSub, Int.reduceAdd, Int.reduceMul, Int.reduceSub, Int.reduceNeg, Int.reduceToNat, q0, q3, q4, q11, q12, q13, hlt, hsm, hlm, hlc, hd, Option.getD_none, Option.isSome_none]
          by_cases hp : c.pl = 0
          · have hok : OkC l i c := hoc.2 ⟨by omega, by omega, s1, s2, f5', fun w h => (by rw [hw] at h; cases h), fun _ => hp⟩
            simp -implicitDefEqProofs (disch := first | omega | (simp only [St.set_n, St.up_n, List.length_cons, List.length_nil]; omega)) only [go_sem, Nat.reduceAdd, Nat.reduceMul, Nat.reduceSub, Int.reduceAdd, Int.reduceMul, Int.reduceSub, Int.reduceNeg, Int.reduceToNat, q0, q3, q4, q11, q12, q13, hlm, hp, hd]
            exact ⟨l.length - (i + 1), by omega, i + 1, rfl, by omega, ⟨by simp -implicitDefEqProofs (disch := first | omega | (simp only [St.set_n, St.up_n, List.length_cons, List.length_nil]; omega)) only [go_sem, Nat.reduceAdd, Nat.reduceMul, Nat.reduceSub, Int.reduceAdd, Int.reduceMul, Int.reduceSub, Int.reduceNeg, Int.reduceToNat, q0], by simp -implicitDefEqProofs (disch := first | omega | (simp only [St.set_n, St.up_n, List.length_cons, List.length_nil]; omega)) only [go_sem, Nat.reduceAdd, Nat.reduceMul, Nat.reduceSub, Int.reduceAdd, Int.reduceMul, Int.reduceSub, Int.reduceNeg, Int.reduceToNat, q3], by simp -implicitDefEqProofs (disch := first | omega | (simp only [St.set_n, St.up_n, List.length_cons, List.length_nil]; omega)) only [go_sem, Nat.reduceAdd, Nat.reduceMul, Nat.reduceSub, Int.reduceAdd, Int.reduceMul, Int.reduceSub, Int.reduceNeg, Int.reduceToNat, q4], by simp -implicitDefEqProofs (disch := first | omega | (simp only [St.set_n, St.up_n, List.length_cons, List.length_nil]; omega)) only [go_sem, Nat.reduceAdd, Nat.reduceMul, Nat.reduceSub, Int.reduceAdd, Int.reduceMul, Int.reduceSub, Int.reduceNeg, Int.reduceToNat, q11], by simp -implicitDefEqProofs (disch := first | omega | (simp only [St.set_n, St.up_n, List.length_cons, List.length_nil]; omega)) only [go_sem, Nat.reduceAdd, Nat.reduceMul, Nat.reduceSub, Int.reduceAdd, Int.reduceMul, Int.reduceSub, Int.reduceNeg, Int.reduceToNat, q12], by simp -implicitDefEqProofs (disch := first | omega | (simp only [St.set_n, St.up_n, List.length_cons, List.length_nil]; omega)) only [go_sem, Nat.reduceAdd, Nat.reduceMul, Nat.reduceSub, Int.reduceAdd, Int.reduceMul, Int.reduceSub, Int.reduceNeg, Int.reduceToNat]; rfl, by simp -implicitDefEqProofs (disch := first | omega | (simp only [St.set_n, St.up_n, List.length_cons, List.length_nil]; omega)) only [go_sem, Nat.reduceAdd, Nat.reduceMul, Nat.reduceSub, Int.reduceAdd, Int.reduceMul, Int.reduceSub, Int.reduceNeg, Int.reduceToNat, hd], by simp only [St.up_n, St.set_n]; omega, fun b hb => by have := hold b hb; simp -implicitDefEqProofs (disch := first | omega | (simp only [St.set_n, St.up_n, List.length_cons, List.length_nil]; omega)) only [go_sem, Nat.reduceAdd, Nat.reduceMul, Nat.reduceSub, Int.reduceAdd, Int.reduceMul, Int.reduceSub, Int.reduceNeg, Int.reduceToNat, this], hrt.succ hci hok, ⟨mput (mput sm c.fr (.bool true)) c.to (.bool true), by simp -implicitDefEqProofs (disch := first | omega | (simp only [St.set_n, St.up_n, List.length_cons, List.length_nil]; omega)) only [go_sem, Nat.reduceAdd, Nat.reduceMul, Nat.reduceSub, Int.reduceAdd, Int.reduceMul, Int.reduceSub, Int.reduceNeg, Int.reduceToNat], hsm2⟩, ⟨mput lm c.th (.agg (fC c).toArray), by simp -implicitDefEqProofs (disch := first | omega | (simp only [St.set_n, St.up_n, List.length_cons, List.length_nil]; omega)) only [go_sem, Nat.reduceAdd, Nat.reduceMul, Nat.reduceSub, Int.reduceAdd, Int.reduceMul, Int.reduceSub, Int.reduceNeg, Int.reduceToNat, fC, hp], hlm2⟩⟩⟩
          · have hok : ¬ OkC l i c := fun h => hp ((hoc.1 h).2.2.2.2.2.2 hw)
            simp -implicitDefEqProofs (disch := first | omega | (simp only [St.set_n, St.up_n, List.length_cons, List.length_nil]; omega)) only [go_sem, Nat.reduceAdd, Nat.reduceMul, Nat.reduceSub, Int.reduceAdd, Int.reduceMul, Int.reduceSub, Int.reduceNeg, Int.reduceToNat, q0, q3, q4, q11, q12, q13, hlm, hp, hd]
            exact ⟨_, To.same (fun d y h2 h3 => by have := hold d h2; simp -implicitDefEqProofs (disch := first | omega | (simp only [St.set_n, St.up_n, List.length_cons, List.length_nil]; omega)) only [go_sem, Nat.reduceAdd, Nat.reduceMul, Nat.reduceSub, Int.reduceAdd, Int.reduceMul, Int.reduceSub, Int.reduceNeg, Int.reduceToNat, this, h3]) hwf, no hok _ (by simp only [St.up_n, St.set_n]; omega)⟩
        | some w =>
          rw [hw] at hlc
          simp only [callV, Option.map_some] at hlc
          have hlc' : mget lm c.th = some (.agg (fC w).toArray) := hlc
          have hwl := ((lst_spec i (by omega) hrt c.th).2 w hw).pl
          have hwc := cnt_le (l.take i) c.th
          rw [List.length_take] at hwc
          by_cases hp : w.pl + 1 = c.pl
          · simp -implicitDefEqProofs (disch := first | omega | (simp only [St.set_n, St.up_n, List.length_cons, List.length_nil]; omega)) only [go_sem, Nat.reduceAdd, Nat.reduceMul, Nat.reduceSub, Int.reduceAdd, Int.reduceMul, Int.reduceSub, Int.reduceNeg, Int.reduceToNat, q0, q3, q4, q11, q12, q13, hlt, hsm, hlm, hlc', hd, Option.getD_some, Option.isSome_some, fC, hp]
            refine callF_of (hist_ahead (a := w) (b := c) fun k2 hk2 => ?_)
            simp only [St.up_n, St.set_n] at hk2
            by_cases hq : w.to < c.fr
            · have hok : OkC l i c := hoc.2 ⟨by omega, by omega, s1, s2, f5', fun w' h => (by rw [hw] at h; cases h; exact ⟨hp, hq⟩), fun h => (by rw [hw] at h; cases h)⟩
              simp -implicitDefEqProofs (disch := first | omega | (simp only [St.set_n, St.up_n, List.length_cons, List.length_nil]; omega)) only [go_sem, Nat.reduceAdd, Nat.reduceMul, Nat.reduceSub, Int.reduceAdd, Int.reduceMul, Int.reduceSub, Int.reduceNeg, Int.reduceToNat, q0, q3, q4, q11, q12, q13, hlm, hq, hd]
              exact ⟨l.length - (i + 1), by omega, i + 1, rfl, by omega, ⟨by simp -implicitDefEqProofs (disch := first | omega | (simp only [St.set_n, St.up_n, List.length_cons, List.length_nil]; omega)) only [go_sem, Nat.reduceAdd, Nat.reduceMul, Nat.reduceSub, Int.reduceAdd, Int.reduceMul, Int.reduceSub, Int.reduceNeg, Int.reduceToNat, q0], by simp -implicitDefEqProofs (disch := first | omega | (simp only [St.set_n, St.up_n, List.length_cons, List.length_nil]; omega)) only [go_sem, Nat.reduceAdd, Nat.reduceMul, Nat.reduceSub, Int.reduceAdd, Int.reduceMul, Int.reduceSub, Int.reduceNeg, Int.reduceToNat, q3], by simp -implicitDefEqProofs (disch := first | omega | (simp only [St.set_n, St.up_n, List.length_cons, List.length_nil]; omega)) only [go_sem, Nat.reduceAdd, Nat.reduceMul, Nat.reduceSub, Int.reduceAdd, Int.reduceMul, Int.reduceSub, Int.reduceNeg, Int.reduceToNat, q4], by simp -implicitDefEqProofs (disch := first | omega | (simp only [St.set_n, St.up_n, List.length_cons, List.length_nil]; omega)) only [go_sem, Nat.reduceAdd, Nat.reduceMul, Nat.reduceSub, Int.reduceAdd, Int.reduceMul, Int.reduceSub, Int.reduceNeg, Int.reduceToNat, q11], by simp -implicitDefEqProofs (disch := first | omega | (simp only [St.set_n, St.up_n, List.length_cons, List.length_nil]; omega)) only [go_sem, Nat.reduceAdd, Nat.reduceMul, Nat.reduceSub, Int.reduceAdd, Int.reduceMul, Int.reduceSub, Int.reduceNeg, Int.reduceToNat, q12], by simp -implicitDefEqProofs (disch := first | omega | (simp only [St.set_n, St.up_n, List.length_cons, List.length_nil]; omega)) only [go_sem, Nat.reduceAdd, Nat.reduceMul, Nat.reduceSub, Int.reduceAdd, Int.reduceMul, Int.reduceSub, Int.reduceNeg, Int.reduceToNat]; rfl, by simp -implicitDefEqProofs (disch := first | omega | (simp only [St.set_n, St.up_n, List.length_cons, List.length_nil]; omega)) only [go_sem, Nat.reduceAdd, Nat.reduceMul, Nat.reduceSub, Int.reduceAdd, Int.reduceMul, Int.reduceSub, Int.reduceNeg, Int.reduceToNat, hd], by simp only [St.up_n, St.set_n]; omega, fun b hb => by have := hold b hb; simp -implicitDefEqProofs (disch := first | omega | (simp only [St.set_n, St.up_n, List.length_cons, List.length_nil]; omega)) only [go_sem, Nat.reduceAdd, Nat.reduceMul, Nat.reduceSub, Int.reduceAdd, Int.reduceMul, Int.reduceSub, Int.reduceNeg, Int.reduceToNat, this], hrt.succ hci hok, ⟨mput (mput sm c.fr (.bool true)) c.to (.bool true), by simp -implicitDefEqProofs (disch := first | omega | (simp only [St.set_n, St.up_n, List.length_cons, List.length_nil]; omega)) only [go_sem, Nat.reduceAdd, Nat.reduceMul, Nat.reduceSub, Int.reduceAdd, Int.reduceMul, Int.reduceSub, Int.reduceNeg, Int.reduceToNat], hsm2⟩, ⟨mput lm c.th (.agg (fC c).toArray), by simp -implicitDefEqProofs (disch := first | omega | (simp only [St.set_n, St.up_n, List.length_cons, List.length_nil]; omega)) only [go_sem, Nat.reduceAdd, Nat.reduceMul, Nat.reduceSub, Int.reduceAdd, Int.reduceMul, Int.reduceSub, Int.reduceNeg, Int.reduceToNat, fC, hp], hlm2⟩⟩⟩
            · have hok : ¬ OkC l i c := fun h => hq ((hoc.1 h).2.2.2.2.2.1 w hw).2
              simp -implicitDefEqProofs (disch := first | omega | (simp only [St.set_n, St.up_n, List.length_cons, List.length_nil]; omega)) only [go_sem, Nat.reduceAdd, Nat.reduceMul, Nat.reduceSub, Int.reduceAdd, Int.reduceMul, Int.reduceSub, Int.reduceNeg, Int.reduceToNat, q0, q3, q4, q11, q12, q13, hlm, hq, hd]
              exact ⟨_, To.same (fun d y h2 h3 => by have := hold d h2; simp -implicitDefEqProofs (disch := first | omega | (simp only [St.set_n, St.up_n, List.length_cons, List.length_nil]; omega)) only [go_sem, Nat.reduceAdd, Nat.reduceMul, Nat.reduceSub, Int.reduceAdd, Int.reduceMul, Int.reduceSub, Int.reduceNeg, Int.reduceToNat, this, h3]) hwf, no hok _ (by simp only [St.up_n, St.set_n]; omega)⟩
          · have hok : ¬ OkC l i c := fun h => hp ((hoc.1 h).2.2.2.2.2.1 w hw).1
            simp -implicitDefEqProofs (disch := first | omega | (simp only [St.set_n, St.up_n, List.length_cons, List.length_nil]; omega)) only [go_sem, Nat.reduceAdd, Nat.reduceMul, Nat.reduceSub, Int.reduceAdd, Int.reduceMul, Int.reduceSub, Int.reduceNeg, Int.reduceToNat, q0, q3, q4, q11, q12, q13, hlt, hsm, hlm, hlc', hd, Option.getD_some, Option.isSome_some, fC, hp]
            exact ⟨_, To.same (fun d y h2 h3 => by have := hold d h2; simp -implicitDefEqProofs (disch := first | omega | (simp only [St.set_n, St.up_n, List.length_cons, List.length_nil]; omega)) only [go_sem, Nat.reduceAdd, Nat.reduceMul, Nat.reduceSub, Int.reduceAdd, Int.reduceMul, Int.reduceSub, Int.reduceNeg, Int.reduceToNat, this, h3]) hwf, no hok _ (by simp only [St.up_n, St.set_n]; omega)⟩
    · simp -implicitDefEqProofs (disch := first | omega | (simp only [St.set_n, St.up_n, List.length_cons, List.length_nil]; omega)) only [go_sem, Nat.reduceAdd, Nat.reduceMul, Nat.reduceSub, Int.reduceAdd, Int.reduceMul, Int.reduceSub, Int.reduceNeg, Int.reduceToNat, q12, q13, hlt, hd]
      have hil : i = l.length := by omega
      subst hil
      refine ⟨_, To.same (fun d y h2 h3 => by have := hold d h2; simp -implicitDefEqProofs (disch := first | omega | (simp only [St.set_n, St.up_n, List.length_cons, List.length_nil]; omega)) only [go_sem, Nat.reduceAdd, Nat.reduceMul, Nat.reduceSub, Int.reduceAdd, Int.reduceMul, Int.reduceSub, Int.reduceNeg, Int.reduceToNat, this, h3]) hwf, ?_⟩
      have := hK s.n (by omega)
      rwa [decide_eq_true hrt.all] at this
end
end Go.Proofs.Ytgcojbgkenndhaa
