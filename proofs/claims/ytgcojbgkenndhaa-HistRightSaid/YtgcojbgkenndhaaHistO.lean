/- 'HistRight': the walk. -/
import Derived.Test.YtgcojbgkenndhaaHistN
import Derived.Test.YtgcojbgkenndhaaEpoch
namespace Go.Proofs.Ytgcojbgkenndhaa
set_option linter.unusedSimpArgs false
set_option linter.unusedVariables false
set_option maxRecDepth 100000
open Go Go.RowKit
section
variable {B : World} {σ τ : St} {K : Value → St → Prop}
def RCl (x : Cl) (cs : List Value) : Prop := cs = fC x
def RBl (x : Bool) (cs : List Value) : Prop := cs = [.bool x]
theorem SlR.sq {l : List Cl} {v : Value} (h : SlR B 15 RCl l v) (hwf : σ.wf B) : Sq B σ l v := by
  obtain ⟨a, cap, rfl, hlc, _, _, hat⟩ := h
  refine ⟨a, cap, rfl, hlc, fun i c hi => ?_⟩
  obtain ⟨b, o, cs, rfl, hb, hR, _, hcell⟩ := hat i c hi
  simp only [RCl] at hR
  subst hR
  have hB := hwf.1
  refine ⟨b, o, rfl, by omega, fun j x hj => ?_⟩
  rw [wfLow' hwf hb, rdK_none, if_pos hb]
  exact hcell j x hj
theorem SlR.fcb {dn : List Bool} {v : Value} (h : SlR B 1 RBl dn v) (hwf : σ.wf B) : fc B σ 1 v = some (dn.length, bools dn) := by
  obtain ⟨a, cap, rfl, hlc, _, hnil, hat⟩ := h
  cases a with
  | none =>
    have : dn.length = 0 := by have := hnil rfl; omega
    have hd : dn = [] := List.length_eq_zero_iff.1 this
    subst hd; rfl
  | some ad =>
    have key : ∀ n i, i + n = dn.length → rds B σ ad i n = some ((bools dn).drop i) := by
      intro n
      induction n with
      | zero =>
        intro i hi
        rw [List.drop_eq_nil_of_le (by rw [bools_len]; omega)]; rfl
      | succ n ih =>
        intro i hi
        obtain ⟨x, hx⟩ : ∃ x, dn[i]? = some x := ⟨dn[i]'(by omega), List.getElem?_eq_getElem (by omega)⟩
        obtain ⟨b, o, cs, e, hb, hR, _, hcell⟩ := hat i x hx
        simp only [Option.some.injEq] at e
        subst e
        simp only [RBl] at hR
        subst hR
        have h1 := hcell 0 _ rfl
        rw [Nat.mul_one, Nat.add_zero] at h1
        have hi' : i < (bools dn).length := by rw [bools_len]; omega
        rw [rds_succ, wfLow' hwf hb, rdK_none, if_pos hb, h1, ih (i + 1) (by omega), List.drop_eq_getElem_cons hi']
        have : (bools dn)[i] = .bool x := by
          have := bools_get hx []
          rw [List.append_nil, List.getElem?_eq_getElem hi'] at this
          exact Option.some.inj this
        rw [this]; rfl
    have := key dn.length 0 (by omega)
    simp only [fc, Nat.mul_one, this, Option.map_some, List.drop_zero]
structure HrF (lv dv : Value) (e : Fr) : Prop where
  v0 : e.v 0 = lv
  v1 : e.v 1 = dv
  d : e.d = []
structure HrD (v : Value) (e : Fr) : Prop where
  v11 : e.v 11 = v
structure HrJ (σ : St) (a b : Cl) (e : Fr) (s : St) : Prop where
  x : ∃ x9 x10 : Nat, e.v 9 = .pointer (some ⟨x9, 0, none⟩) ∧ e.v 10 = .pointer (some ⟨x10, 0, none⟩) ∧ s.m x9 = some (.raw (.cells (fC a).toArray 65 (0, 0))) ∧ s.m x10 = some (.raw (.cells (fC b).toArray 65 (0, 0)))
  old : ∀ c, c < σ.n → s.m c = σ.m c
  n : σ.n ≤ s.n
set_option maxHeartbeats 8000000 in
theorem right07 {l : List Cl} {dn : List Bool} {v dv : Value} {i k : Int} (hl : SlR B 15 RCl l v) (hd : SlR B 1 RBl dn dv) (hi : 0 ≤ i ∧ i ≤ 255) (hk : 0 ≤ k ∧ k ≤ 255) (hK : ∀ k, σ.n ≤ k → K (.bool true) (σ.up k)) :
    Fn Try.prog B 8 #[v, dv, .int .u8 i, .int .u8 k] σ K := by
  have hl' := hl
  have hd' := hd
  obtain ⟨A, cap, rfl, hlc, hcm, hnil, hat⟩ := hl
  obtain ⟨Ad, capd, rfl, hlcd, hcmd, hnild, _⟩ := hd
  refine Fn.ofS is8 (by simp) fun hwf => ?_
  have hB := hwf.1
  simp only [b8, Try.f8, Option.getD_some]
  refine SemS.seqw fun _ => ?_
  simp -implicitDefEqProofs (disch := first | omega | (simp only [St.set_n, St.up_n, List.length_cons, List.length_nil]; omega)) only [go_sem, Nat.reduceAdd, Nat.reduceMul, Nat.reduceSub, Int.reduceAdd, Int.reduceMul, Int.reduceSub, Int.reduceNeg, Int.reduceToNat]
  refine SemS.seqw fun _ => ?_
  simp -implicitDefEqProofs (disch := first | omega | (simp only [St.set_n, St.up_n, List.length_cons, List.length_nil]; omega)) only [go_sem, Nat.reduceAdd, Nat.reduceMul, Nat.reduceSub, Int.reduceAdd, Int.reduceMul, Int.reduceSub, Int.reduceNeg, Int.reduceToNat]
  refine callF_of (awake07 fun k1 hk1 => ?_)
  simp -implicitDefEqProofs (disch := first | omega | (simp only [St.set_n, St.up_n, List.length_cons, List.length_nil]; omega)) only [go_sem, Nat.reduceAdd, Nat.reduceMul, Nat.reduceSub, Int.reduceAdd, Int.reduceMul, Int.reduceSub, Int.reduceNeg, Int.reduceToNat]
  refine SemS.seqw fun hw1 => ?_
  by_cases h60 : (60 : Int) < l.length
  · simp -implicitDefEqProofs (disch := first | omega | (simp only [St.set_n, St.up_n, List.length_cons, List.length_nil]; omega)) only [go_sem, Nat.reduceAdd, Nat.reduceMul, Nat.reduceSub, Int.reduceAdd, Int.reduceMul, Int.reduceSub, Int.reduceNeg, Int.reduceToNat, h60]
    exact ⟨_, To.same (fun d y h2 h3 => by simp -implicitDefEqProofs (disch := first | omega | (simp only [St.set_n, St.up_n, List.length_cons, List.length_nil]; omega)) only [go_sem, Nat.reduceAdd, Nat.reduceMul, Nat.reduceSub, Int.reduceAdd, Int.reduceMul, Int.reduceSub, Int.reduceNeg, Int.reduceToNat, h3]) hwf, hK _ (by simp only [St.up_n]; omega)⟩
  by_cases h100 : (100 : Int) < dn.length
  · simp -implicitDefEqProofs (disch := first | omega | (simp only [St.set_n, St.up_n, List.length_cons, List.length_nil]; omega)) only [go_sem, Nat.reduceAdd, Nat.reduceMul, Nat.reduceSub, Int.reduceAdd, Int.reduceMul, Int.reduceSub, Int.reduceNeg, Int.reduceToNat, h60, h100]
    exact ⟨_, To.same (fun d y h2 h3 => by simp -implicitDefEqProofs (disch := first | omega | (simp only [St.set_n, St.up_n, List.length_cons, List.length_nil]; omega)) only [go_sem, Nat.reduceAdd, Nat.reduceMul, Nat.reduceSub, Int.reduceAdd, Int.reduceMul, Int.reduceSub, Int.reduceNeg, Int.reduceToNat, h3]) hwf, hK _ (by simp only [St.up_n]; omega)⟩
  simp -implicitDefEqProofs (disch := first | omega | (simp only [St.set_n, St.up_n, List.length_cons, List.length_nil]; omega)) only [go_sem, Nat.reduceAdd, Nat.reduceMul, Nat.reduceSub, Int.reduceAdd, Int.reduceMul, Int.reduceSub, Int.reduceNeg, Int.reduceToNat, h60, h100]
  refine SemS.seq (fun e' s' => HrF (.slice A l.length cap) (.slice Ad dn.length capd) e' ∧ (∀ c, c < σ.n → s'.m c = σ.m c) ∧ σ.n ≤ s'.n) (SemS.wp fun _ => ?_) ?_
  · by_cases h0 : (0 : Int) < l.length
    · obtain ⟨x, hx, hxl⟩ : ∃ x : Nat, i.tmod l.length = x ∧ x < l.length := ⟨(i % l.length).toNat, by
        rw [Int.tmod_eq_emod_of_nonneg hi.1]; have := Int.emod_nonneg i (b := (l.length : Int)) (by omega); omega, by
        have := Int.emod_lt_of_pos i h0; have := Int.emod_nonneg i (b := (l.length : Int)) (by omega); omega⟩
      obtain ⟨y, hy, hyl⟩ : ∃ x : Nat, k.tmod l.length = x ∧ x < l.length := ⟨(k % l.length).toNat, by
        rw [Int.tmod_eq_emod_of_nonneg hk.1]; have := Int.emod_nonneg k (b := (l.length : Int)) (by omega); omega, by
        have := Int.emod_lt_of_pos k h0; have := Int.emod_nonneg k (b := (l.length : Int)) (by omega); omega⟩
      obtain ⟨a, ha⟩ : ∃ c, l[x]? = some c := ⟨l[x]'hxl, List.getElem?_eq_getElem hxl⟩
      obtain ⟨b, hb⟩ : ∃ c, l[y]? = some c := ⟨l[y]'hyl, List.getElem?_eq_getElem hyl⟩
      obtain ⟨A', cap', e, _, hsq⟩ := hl'.sq (σ := σ.up k1) hw1
      simp only [Value.slice.injEq, true_and] at e
      obtain ⟨rfl, rfl⟩ := e
      obtain ⟨bb, o, rfl, hbb, hca⟩ := hsq x a ha
      obtain ⟨_, _, e, _, hcb⟩ := hsq y b hb
      cases e
      have haa := sq_cells hca
      have hbc := sq_cells hcb
      simp only [St.up_m, St.up_n] at haa hbc hbb
      have hwi : IntKind.i64.wrap i = i := wrap_i64 (by omega)
      have hwk : IntKind.i64.wrap k = k := wrap_i64 (by omega)
      have hl0 : ¬ (l.length : Int) = 0 := by omega
      have hxi : (x : Int) < l.length := by omega
      have hyi : (y : Int) < l.length := by omega
      simp -implicitDefEqProofs (disch := first | omega | (simp only [St.set_n, St.up_n, List.length_cons, List.length_nil]; omega)) only [go_sem, Nat.reduceAdd, Nat.reduceMul, Nat.reduceSub, Int.reduceAdd, Int.reduceMul, Int.reduceSub, Int.reduceNeg, Int.reduceToNat, h60, h100, h0, hwi, hwk, hx, hy, hl0, hxi, hyi, haa, hbc]
      refine effD_mid (fun e' s' => HrF (.slice (some ⟨bb, o, none⟩) l.length cap) (.slice Ad dn.length capd) e' ∧ HrJ (σ.up k1) a b e' s') ?_ ?_
      · refine effD_plan [0, 0, 2, 0, 8, 30, 63, 127, 0, 0, 512, 0, 2048, 7680, 16128, 32512, 0, 0, 196863, 524287] [0, 1, 2, 3, 4, 5, 6, 7, 8, 9, 10, 11, 12, 13, 14, 15] (.eag 0 (.eag 1 (.eag 2 (.eag 3 (.eagq 4 (.eag 5 (.eag 6 (.eagq 7 (.eag 8 (.eag 9 (.eag 10 (.eag 11 (.eagq 12 (.eag 13 (.eag 14 (.eagq 15 (.alt 16 [4, 7, 12, 15] (.alt 17 [4, 7, 12, 15] (.alt 18 [12, 15] (.alt 19 [] .fin .stop) .stop) .stop) (.alt 17 [4, 7, 12, 15] (.alt 16 [4, 7, 12, 15] (.alt 18 [12, 15] (.alt 19 [] .fin .stop) .stop) .stop) .stop)))))))))))))))))) (by kernel_rfl) ?_
        simp -implicitDefEqProofs (disch := first | omega | (simp only [St.set_n, St.up_n, List.length_cons, List.length_nil]; omega)) only [go_sem, Nat.reduceAdd, Nat.reduceMul, Nat.reduceSub, Int.reduceAdd, Int.reduceMul, Int.reduceSub, Int.reduceNeg, Int.reduceToNat, hwi, hwk, hx, hy, hl0, hxi, hyi, haa, hbc]
        refine ⟨⟨⟨by simp -implicitDefEqProofs (disch := first | omega | (simp only [St.set_n, St.up_n, List.length_cons, List.length_nil]; omega)) only [go_sem, Nat.reduceAdd, Nat.reduceMul, Nat.reduceSub, Int.reduceAdd, Int.reduceMul, Int.reduceSub, Int.reduceNeg, Int.reduceToNat], by simp -implicitDefEqProofs (disch := first | omega | (simp only [St.set_n, St.up_n, List.length_cons, List.length_nil]; omega)) only [go_sem, Nat.reduceAdd, Nat.reduceMul, Nat.reduceSub, Int.reduceAdd, Int.reduceMul, Int.reduceSub, Int.reduceNeg, Int.reduceToNat], by simp -implicitDefEqProofs (disch := first | omega | (simp only [St.set_n, St.up_n, List.length_cons, List.length_nil]; omega)) only [go_sem, Nat.reduceAdd, Nat.reduceMul, Nat.reduceSub, Int.reduceAdd, Int.reduceMul, Int.reduceSub, Int.reduceNeg, Int.reduceToNat]⟩, ⟨⟨_, _, by simp -implicitDefEqProofs (disch := first | omega | (simp only [St.set_n, St.up_n, List.length_cons, List.length_nil]; omega)) only [go_sem, Nat.reduceAdd, Nat.reduceMul, Nat.reduceSub, Int.reduceAdd, Int.reduceMul, Int.reduceSub, Int.reduceNeg, Int.reduceToNat]; rfl, by simp -implicitDefEqProofs (disch := first | omega | (simp only [St.set_n, St.up_n, List.length_cons, List.length_nil]; omega)) only [go_sem, Nat.reduceAdd, Nat.reduceMul, Nat.reduceSub, Int.reduceAdd, Int.reduceMul, Int.reduceSub, Int.reduceNeg, Int.reduceToNat]; rfl, by simp -implicitDefEqProofs (disch := first | omega | (simp only [St.set_n, St.up_n, List.length_cons, List.length_nil]; omega)) only [go_sem, Nat.reduceAdd, Nat.reduceMul, Nat.reduceSub, Int.reduceAdd, Int.reduceMul, Int.reduceSub, Int.reduceNeg, Int.reduceToNat]; rfl, by simp -implicitDefEqProofs (disch := first | omega | (simp only [St.set_n, St.up_n, List.length_cons, List.length_nil]; omega)) only [go_sem, Nat.reduceAdd, Nat.reduceMul, Nat.reduceSub, Int.reduceAdd, Int.reduceMul, Int.reduceSub, Int.reduceNeg, Int.reduceToNat]; rfl⟩, fun c hc => ?_, ?_⟩⟩, ⟨⟨by simp -implicitDefEqProofs (disch := first | omega | (simp only [St.set_n, St.up_n, List.length_cons, List.length_nil]; omega)) only [go_sem, Nat.reduceAdd, Nat.reduceMul, Nat.reduceSub, Int.reduceAdd, Int.reduceMul, Int.reduceSub, Int.reduceNeg, Int.reduceToNat], by simp -implicitDefEqProofs (disch := first | omega | (simp only [St.set_n, St.up_n, List.length_cons, List.length_nil]; omega)) only [go_sem, Nat.reduceAdd, Nat.reduceMul, Nat.reduceSub, Int.reduceAdd, Int.reduceMul, Int.reduceSub, Int.reduceNeg, Int.reduceToNat], by simp -implicitDefEqProofs (disch := first | omega | (simp only [St.set_n, St.up_n, List.length_cons, List.length_nil]; omega)) only [go_sem, Nat.reduceAdd, Nat.reduceMul, Nat.reduceSub, Int.reduceAdd, Int.reduceMul, Int.reduceSub, Int.reduceNeg, Int.reduceToNat]⟩, ⟨⟨_, _, by simp -implicitDefEqProofs (disch := first | omega | (simp only [St.set_n, St.up_n, List.length_cons, List.length_nil]; omega)) only [go_sem, Nat.reduceAdd, Nat.reduceMul, Nat.reduceSub, Int.reduceAdd, Int.reduceMul, Int.reduceSub, Int.reduceNeg, Int.reduceToNat]; rfl, by simp -implicitDefEqProofs (disch := first | omega | (simp only [St.set_n, St.up_n, List.length_cons, List.length_nil]; omega)) only [go_sem, Nat.reduceAdd, Nat.reduceMul, Nat.reduceSub, Int.reduceAdd, Int.reduceMul, Int.reduceSub, Int.reduceNeg, Int.reduceToNat]; rfl, by simp -implicitDefEqProofs (disch := first | omega | (simp only [St.set_n, St.up_n, List.length_cons, List.length_nil]; omega)) only [go_sem, Nat.reduceAdd, Nat.reduceMul, Nat.reduceSub, Int.reduceAdd, Int.reduceMul, Int.reduceSub, Int.reduceNeg, Int.reduceToNat]; rfl, by simp -implicitDefEqProofs (disch := first | omega | (simp only [St.set_n, St.up_n, List.length_cons, List.length_nil]; omega)) only [go_sem, Nat.reduceAdd, Nat.reduceMul, Nat.reduceSub, Int.reduceAdd, Int.reduceMul, Int.reduceSub, Int.reduceNeg, Int.reduceToNat]; rfl⟩, fun c hc => ?_, ?_⟩⟩⟩
        all_goals first | (simp only [St.up_n] at hc; simp -implicitDefEqProofs (disch := first | omega | (simp only [St.set_n, St.up_n, List.length_cons, List.length_nil]; omega)) only [go_sem, Nat.reduceAdd, Nat.reduceMul, Nat.reduceSub, Int.reduceAdd, Int.reduceMul, Int.reduceSub, Int.reduceNeg, Int.reduceToNat]; done) | (simp only [St.up_n, St.set_n]; omega)
      · rintro e' s' ⟨⟨q0, q1, hdd⟩, ⟨x9, x10, q9, q10, m9, m10⟩, hold, hn⟩
        simp only [fC] at m9 m10
        simp -implicitDefEqProofs (disch := first | omega | (simp only [St.set_n, St.up_n, List.length_cons, List.length_nil]; omega)) only [go_sem, Nat.reduceAdd, Nat.reduceMul, Nat.reduceSub, Int.reduceAdd, Int.reduceMul, Int.reduceSub, Int.reduceNeg, Int.reduceToNat, q0, q1, q9, q10, m9, m10]
        refine effD_quiet (.bool (decide (a.to < b.fr))) (fun mm hmm => ?_) ?_
        · simp -implicitDefEqProofs (disch := first | omega | (simp only [St.set_n, St.up_n, List.length_cons, List.length_nil]; omega)) only [go_sem, Nat.reduceAdd, Nat.reduceMul, Nat.reduceSub, Int.reduceAdd, Int.reduceMul, Int.reduceSub, Int.reduceNeg, Int.reduceToNat]
          exact hist_ahead (a := a) (b := b) fun k2 hk2 => ⟨rfl, k2, by simpa using hk2, rfl⟩
        simp -implicitDefEqProofs (disch := first | omega | (simp only [St.set_n, St.up_n, List.length_cons, List.length_nil]; omega)) only [go_sem, Nat.reduceAdd, Nat.reduceMul, Nat.reduceSub, Int.reduceAdd, Int.reduceMul, Int.reduceSub, Int.reduceNeg, Int.reduceToNat, q9, q10, m9, m10]
        intro jj hjj
        simp only [St.up_n] at hold hn
        exact ⟨_, To.refl _ _, ⟨by simp -implicitDefEqProofs (disch := first | omega | (simp only [St.set_n, St.up_n, List.length_cons, List.length_nil]; omega)) only [go_sem, Nat.reduceAdd, Nat.reduceMul, Nat.reduceSub, Int.reduceAdd, Int.reduceMul, Int.reduceSub, Int.reduceNeg, Int.reduceToNat, q0], by simp -implicitDefEqProofs (disch := first | omega | (simp only [St.set_n, St.up_n, List.length_cons, List.length_nil]; omega)) only [go_sem, Nat.reduceAdd, Nat.reduceMul, Nat.reduceSub, Int.reduceAdd, Int.reduceMul, Int.reduceSub, Int.reduceNeg, Int.reduceToNat, q1], by simp -implicitDefEqProofs (disch := first | omega | (simp only [St.set_n, St.up_n, List.length_cons, List.length_nil]; omega)) only [go_sem, Nat.reduceAdd, Nat.reduceMul, Nat.reduceSub, Int.reduceAdd, Int.reduceMul, Int.reduceSub, Int.reduceNeg, Int.reduceToNat, hdd]⟩, fun c hc => by have := hold c (by omega); simp -implicitDefEqProofs (disch := first | omega | (simp only [St.set_n, St.up_n, List.length_cons, List.length_nil]; omega)) only [go_sem, Nat.reduceAdd, Nat.reduceMul, Nat.reduceSub, Int.reduceAdd, Int.reduceMul, Int.reduceSub, Int.reduceNeg, Int.reduceToNat, this], by simp only [St.up_n]; omega⟩
    · simp -implicitDefEqProofs (disch := first | omega | (simp only [St.set_n, St.up_n, List.length_cons, List.length_nil]; omega)) only [go_sem, Nat.reduceAdd, Nat.reduceMul, Nat.reduceSub, Int.reduceAdd, Int.reduceMul, Int.reduceSub, Int.reduceNeg, Int.reduceToNat, h0]
      exact ⟨_, To.refl _ _, ⟨by simp -implicitDefEqProofs (disch := first | omega | (simp only [St.set_n, St.up_n, List.length_cons, List.length_nil]; omega)) only [go_sem, Nat.reduceAdd, Nat.reduceMul, Nat.reduceSub, Int.reduceAdd, Int.reduceMul, Int.reduceSub, Int.reduceNeg, Int.reduceToNat], by simp -implicitDefEqProofs (disch := first | omega | (simp only [St.set_n, St.up_n, List.length_cons, List.length_nil]; omega)) only [go_sem, Nat.reduceAdd, Nat.reduceMul, Nat.reduceSub, Int.reduceAdd, Int.reduceMul, Int.reduceSub, Int.reduceNeg, Int.reduceToNat], by simp -implicitDefEqProofs (disch := first | omega | (simp only [St.set_n, St.up_n, List.length_cons, List.length_nil]; omega)) only [go_sem, Nat.reduceAdd, Nat.reduceMul, Nat.reduceSub, Int.reduceAdd, Int.reduceMul, Int.reduceSub, Int.reduceNeg, Int.reduceToNat]⟩, fun c hc => by simp -implicitDefEqProofs (disch := first | omega | (simp only [St.set_n, St.up_n, List.length_cons, List.length_nil]; omega)) only [go_sem, Nat.reduceAdd, Nat.reduceMul, Nat.reduceSub, Int.reduceAdd, Int.reduceMul, Int.reduceSub, Int.reduceNeg, Int.reduceToNat], by simp only [St.up_n]; omega⟩
  · rintro e s hws ⟨⟨q0, q1, hdd⟩, hold, hn⟩
    refine SemS.seqw fun _ => ?_
    simp -implicitDefEqProofs (disch := first | omega | (simp only [St.set_n, St.up_n, List.length_cons, List.length_nil]; omega)) only [go_sem, Nat.reduceAdd, Nat.reduceMul, Nat.reduceSub, Int.reduceAdd, Int.reduceMul, Int.reduceSub, Int.reduceNeg, Int.reduceToNat, q0, q1]
    have hw1 : ((s.set s.n (.raw (.cells #[] 4 (0, 0)))).up (s.n + 1)).wf B := by
      have := hws.1
      refine ⟨by simp only [St.set_n, St.up_n]; omega, fun d x hx => ?_⟩
      simp only [St.up_m, St.set, St.up_n] at hx ⊢
      split at hx
      · omega
      · have := hws.2 _ _ hx; omega
    refine app_own2 se27 (.inr kd27) zr4 rfl (by omega) (cs := []) (n := 0) (Own.of' (sp := []) (by simp -implicitDefEqProofs (disch := first | omega | (simp only [St.set_n, St.up_n, List.length_cons, List.length_nil]; omega)) only [go_sem, Nat.reduceAdd, Nat.reduceMul, Nat.reduceSub, Int.reduceAdd, Int.reduceMul, Int.reduceSub, Int.reduceNeg, Int.reduceToNat]) rfl (Nat.le_refl _) rfl) (hd'.fcb hw1) (by rw [bools_len]; omega) (by simp [bools, Value.oneCell']) (by omega) fun v' s2 o2 hb2 hk2 hn2 => ?_
    simp only [St.up_n, Nat.zero_add, List.nil_append] at o2 hb2 hn2
    obtain ⟨A2, C2, rfl, hC2⟩ := o2.is
    have hnb : ∀ b, blk (.slice A2 dn.length C2) = some b → s.n ≤ b := fun b hb => by
      rcases hb2 b hb with h | h
      · omega
      · simp only [blk, Option.some.injEq] at h; omega
    have hold2 : ∀ c, c < σ.n → s2.m c = σ.m c := fun c hc => by
      rw [hk2 c fun e => by have := hnb c e; omega]
      have := hold c hc
      simp -implicitDefEqProofs (disch := first | omega | (simp only [St.set_n, St.up_n, List.length_cons, List.length_nil]; omega)) only [go_sem, Nat.reduceAdd, Nat.reduceMul, Nat.reduceSub, Int.reduceAdd, Int.reduceMul, Int.reduceSub, Int.reduceNeg, Int.reduceToNat, this]
    simp -implicitDefEqProofs (disch := first | omega | (simp only [St.set_n, St.up_n, List.length_cons, List.length_nil]; omega)) only [go_sem, Nat.reduceAdd, Nat.reduceMul, Nat.reduceSub, Int.reduceAdd, Int.reduceMul, Int.reduceSub, Int.reduceNeg, Int.reduceToNat]
    refine SemS.seq (fun e' s' => HrF (.slice A l.length cap) (.slice Ad dn.length capd) e' ∧ (∀ c, c < σ.n → s'.m c = σ.m c) ∧ σ.n ≤ s'.n ∧ ∃ (dv' : Value) (dn' : List Bool), HrD dv' e' ∧ dn'.length ≤ l.length ∧ Own s' 4 1 (bools dn') dn'.length dv' ∧ ∀ b, blk dv' = some b → σ.n ≤ b) (SemS.wp fun _ => ?_) ?_
    · by_cases hgt : (l.length : Int) < dn.length
      · simp -implicitDefEqProofs (disch := first | omega | (simp only [St.set_n, St.up_n, List.length_cons, List.length_nil]; omega)) only [go_sem, Nat.reduceAdd, Nat.reduceMul, Nat.reduceSub, Int.reduceAdd, Int.reduceMul, Int.reduceSub, Int.reduceNeg, Int.reduceToNat, q0, hgt]
        have ht := o2.trunc (k := l.length) (by omega)
        have hlt2 : (dn.take l.length).length = l.length := by rw [List.length_take]; omega
        refine ⟨_, To.refl _ _, ⟨by simp -implicitDefEqProofs (disch := first | omega | (simp only [St.set_n, St.up_n, List.length_cons, List.length_nil]; omega)) only [go_sem, Nat.reduceAdd, Nat.reduceMul, Nat.reduceSub, Int.reduceAdd, Int.reduceMul, Int.reduceSub, Int.reduceNeg, Int.reduceToNat, q0], by simp -implicitDefEqProofs (disch := first | omega | (simp only [St.set_n, St.up_n, List.length_cons, List.length_nil]; omega)) only [go_sem, Nat.reduceAdd, Nat.reduceMul, Nat.reduceSub, Int.reduceAdd, Int.reduceMul, Int.reduceSub, Int.reduceNeg, Int.reduceToNat, q1], by simp -implicitDefEqProofs (disch := first | omega | (simp only [St.set_n, St.up_n, List.length_cons, List.length_nil]; omega)) only [go_sem, Nat.reduceAdd, Nat.reduceMul, Nat.reduceSub, Int.reduceAdd, Int.reduceMul, Int.reduceSub, Int.reduceNeg, Int.reduceToNat, hdd]⟩, hold2, by omega, .slice A2 l.length C2, dn.take l.length, ⟨by simp -implicitDefEqProofs (disch := first | omega | (simp only [St.set_n, St.up_n, List.length_cons, List.length_nil]; omega)) only [go_sem, Nat.reduceAdd, Nat.reduceMul, Nat.reduceSub, Int.reduceAdd, Int.reduceMul, Int.reduceSub, Int.reduceNeg, Int.reduceToNat]⟩, by omega, ?_, fun b hb => ?_⟩
        · rw [hlt2]
          rw [Nat.mul_one] at ht
          simpa [bools, List.map_take] using ht
        · have := hnb b (by revert hb; cases A2 <;> exact id); omega
      · simp -implicitDefEqProofs (disch := first | omega | (simp only [St.set_n, St.up_n, List.length_cons, List.length_nil]; omega)) only [go_sem, Nat.reduceAdd, Nat.reduceMul, Nat.reduceSub, Int.reduceAdd, Int.reduceMul, Int.reduceSub, Int.reduceNeg, Int.reduceToNat, q0, hgt]
        exact ⟨_, To.refl _ _, ⟨by simp -implicitDefEqProofs (disch := first | omega | (simp only [St.set_n, St.up_n, List.length_cons, List.length_nil]; omega)) only [go_sem, Nat.reduceAdd, Nat.reduceMul, Nat.reduceSub, Int.reduceAdd, Int.reduceMul, Int.reduceSub, Int.reduceNeg, Int.reduceToNat, q0], by simp -implicitDefEqProofs (disch := first | omega | (simp only [St.set_n, St.up_n, List.length_cons, List.length_nil]; omega)) only [go_sem, Nat.reduceAdd, Nat.reduceMul, Nat.reduceSub, Int.reduceAdd, Int.reduceMul, Int.reduceSub, Int.reduceNeg, Int.reduceToNat, q1], by simp -implicitDefEqProofs (disch := first | omega | (simp only [St.set_n, St.up_n, List.length_cons, List.length_nil]; omega)) only [go_sem, Nat.reduceAdd, Nat.reduceMul, Nat.reduceSub, Int.reduceAdd, Int.reduceMul, Int.reduceSub, Int.reduceNeg, Int.reduceToNat, hdd]⟩, hold2, by omega, _, dn, ⟨by simp -implicitDefEqProofs (disch := first | omega | (simp only [St.set_n, St.up_n, List.length_cons, List.length_nil]; omega)) only [go_sem, Nat.reduceAdd, Nat.reduceMul, Nat.reduceSub, Int.reduceAdd, Int.reduceMul, Int.reduceSub, Int.reduceNeg, Int.reduceToNat]⟩, by omega, o2, fun b hb => by have := hnb b hb; omega⟩
    clear hw1 o2 hb2 hk2 hn2 hnb hold2 hold hn q0 q1 hdd hws
    rintro e s hws ⟨⟨q0, q1, hdd⟩, hold, hn, dv', dn', ⟨q11⟩, hdl, od, hnb⟩
    refine SemS.wp fun _ => ?_
    simp -implicitDefEqProofs (disch := first | omega | (simp only [St.set_n, St.up_n, List.length_cons, List.length_nil]; omega)) only [go_sem, Nat.reduceAdd, Nat.reduceMul, Nat.reduceSub, Int.reduceAdd, Int.reduceMul, Int.reduceSub, Int.reduceNeg, Int.reduceToNat, q0, q11]
    refine callF_wf (hist_right (by omega) (hl'.sq hws) fun k2 hk2 hw2 => ?_)
    simp -implicitDefEqProofs (disch := first | omega | (simp only [St.set_n, St.up_n, List.length_cons, List.length_nil]; omega)) only [go_sem, Nat.reduceAdd, Nat.reduceMul, Nat.reduceSub, Int.reduceAdd, Int.reduceMul, Int.reduceSub, Int.reduceNeg, Int.reduceToNat, q0]
    refine callF_of (ref_right (by omega) (hl'.sq hw2) ?_)
    simp -implicitDefEqProofs (disch := first | omega | (simp only [St.set_n, St.up_n, List.length_cons, List.length_nil]; omega)) only [go_sem, Nat.reduceAdd, Nat.reduceMul, Nat.reduceSub, Int.reduceAdd, Int.reduceMul, Int.reduceSub, Int.reduceNeg, Int.reduceToNat, q0, q11]
    refine callF_wf (hist_minimal (by omega) (by omega) (hl'.sq hw2) (od.keepR fun b o _ hb => hb) fun v1 s1 o1 hk1 hb1 hn1 hw1 => ?_)
    simp only [St.up_n, St.up_m] at hk1 hb1 hn1
    have od1 : Own s1 4 1 (bools dn') dn'.length dv' := od.keepR fun b o hb ho => by
      have := (hws.2 _ _ ho).2
      rw [hk1 b (by omega)]; exact ho
    simp -implicitDefEqProofs (disch := first | omega | (simp only [St.set_n, St.up_n, List.length_cons, List.length_nil]; omega)) only [go_sem, Nat.reduceAdd, Nat.reduceMul, Nat.reduceSub, Int.reduceAdd, Int.reduceMul, Int.reduceSub, Int.reduceNeg, Int.reduceToNat, q0, q11]
    refine callF_of (ref_minimal (by omega) hdl (hl'.sq hw1) od1 fun v2 s2 o2 hk3 hb2 hn2 => ?_)
    have o1' : Own s2 3 1 (ints (outs l dn' l.length)) (outs l dn' l.length).length v1 := o1.keepR fun b o hb ho => by
      have := (hw1.2 _ _ ho).2
      rw [hk3 b this]; exact ho
    have hol := outs_len l dn' l.length
    simp -implicitDefEqProofs (disch := first | omega | (simp only [St.set_n, St.up_n, List.length_cons, List.length_nil]; omega)) only [go_sem, Nat.reduceAdd, Nat.reduceMul, Nat.reduceSub, Int.reduceAdd, Int.reduceMul, Int.reduceSub, Int.reduceNeg, Int.reduceToNat]
    refine callF_of (same_ints (by omega) o1' o2 ?_)
    simp -implicitDefEqProofs (disch := first | omega | (simp only [St.set_n, St.up_n, List.length_cons, List.length_nil]; omega)) only [go_sem, Nat.reduceAdd, Nat.reduceMul, Nat.reduceSub, Int.reduceAdd, Int.reduceMul, Int.reduceSub, Int.reduceNeg, Int.reduceToNat, hdd]
    exact ⟨_, To.same (fun d y h2 h3 => by rw [hk3 d (by omega), hk1 d (by omega), hold d h2]; exact h3) hwf, hK _ (by omega)⟩
end
end Go.Proofs.Ytgcojbgkenndhaa
