/- Histories: the document's example, by a walk. -/
import Derived.Test.YtgcojbgkenndhaaHistV
namespace Go.Proofs.Ytgcojbgkenndhaa
set_option pp.deepTerms false
set_option pp.deepTerms.threshold 8
set_option linter.unusedSimpArgs false
set_option linter.unusedVariables false
set_option maxRecDepth 100000
open Go Go.RowKit
section
variable {B : World} {σ τ : St} {K : Value → St → Prop}
open Classical in
theorem hist_right_t {l : List Cl} {v : Value} (hl : l.length ≤ 100000) (ho : Sq B σ l v) (hr : Rt l) (hK : ∀ k, σ.n ≤ k → K (.bool true) (σ.up k)) : Fn Try.prog B 37 #[v] σ K :=
  hist_right hl ho fun k hk => by rw [decide_eq_true hr]; exact hK k hk
open Classical in
theorem ref_right_t {l : List Cl} {v : Value} (hl : l.length ≤ 100000) (ho : Sq B σ l v) (hr : Rt l) (hK : K (.bool true) σ) : Fn Try.prog B 38 #[v] σ K :=
  ref_right hl ho (by rw [decide_eq_true hr]; exact hK)
def exS3 : LS := (((⟨[], 0⟩ : LS).begin 0 op0).begin 1 op0).fin 1 ⟨1, 0, op0, an0, 2, 0⟩ an0
def exS4 : LS := exS3.fin 0 ⟨0, 0, op0, an0, 1, 0⟩ an0
theorem ex_right : Rt exS4.l := by
  have h1 : Wl ((⟨[], 0⟩ : LS).begin 0 op0) := Wl.nil.begin op0 (by decide) (fun j c h => by simp at h)
  have h2 : Wl (((⟨[], 0⟩ : LS).begin 0 op0).begin 1 op0) := h1.begin op0 (by decide) fun j c hc ht => by
    match j, hc with
    | 0, hc => simp [LS.begin] at hc; subst hc; simp at ht
    | j + 1, hc => simp [LS.begin] at hc
  have h3 : Wl exS3 := h2.fin an0 rfl rfl
  have h4 : Wl exS4 := h3.fin an0 rfl rfl
  refine h4.right fun j c hc => ?_
  match j, hc with
  | 0, hc => simp [exS4, exS3, LS.fin, LS.begin] at hc; subst hc; simp
  | 1, hc => simp [exS4, exS3, LS.fin, LS.begin] at hc; subst hc; simp
  | j + 2, hc => simp [exS4, exS3, LS.fin, LS.begin] at hc
set_option maxHeartbeats 4000000 in
theorem awake07 (hK : ∀ k, σ.n ≤ k → K (.bool true) (σ.up k)) : Fn Try.prog B 29 #[] σ K := by
  refine Fn.of' is29 (by simp) fun hwf => ?_
  simp only [b29, Try.f29, Option.getD_some]
  simp -implicitDefEqProofs (disch := first | omega | (simp only [St.set_n, St.up_n, List.length_cons, List.length_nil]; omega)) only [go_sem, Nat.reduceAdd, Nat.reduceMul, Nat.reduceSub, Int.reduceAdd, Int.reduceMul, Int.reduceSub, Int.reduceNeg, Int.reduceToNat]
  refine callF_of (log_new fun k0 hk0 => ?_)
  simp -implicitDefEqProofs (disch := first | omega | (simp only [St.set_n, St.up_n, List.length_cons, List.length_nil]; omega)) only [go_sem, Nat.reduceAdd, Nat.reduceMul, Nat.reduceSub, Int.reduceAdd, Int.reduceMul, Int.reduceSub, Int.reduceNeg, Int.reduceToNat]
  refine callF_of (log_begin (S := ⟨[], 0⟩) (op := op0) (by simp -implicitDefEqProofs (disch := first | omega | (simp only [St.set_n, St.up_n, List.length_cons, List.length_nil]; omega)) only [go_sem, Nat.reduceAdd, Nat.reduceMul, Nat.reduceSub, Int.reduceAdd, Int.reduceMul, Int.reduceSub, Int.reduceNeg, Int.reduceToNat]) (by simp) (by simp) fun k1 hk1 => ?_)
  simp -implicitDefEqProofs (disch := first | omega | (simp only [St.set_n, St.up_n, List.length_cons, List.length_nil]; omega)) only [go_sem, Nat.reduceAdd, Nat.reduceMul, Nat.reduceSub, Int.reduceAdd, Int.reduceMul, Int.reduceSub, Int.reduceNeg, Int.reduceToNat]
  refine callF_of (log_begin (S := (⟨[], 0⟩ : LS).begin 0 op0) (op := op0) (by simp -implicitDefEqProofs (disch := first | omega | (simp only [St.set_n, St.up_n, List.length_cons, List.length_nil]; omega)) only [go_sem, Nat.reduceAdd, Nat.reduceMul, Nat.reduceSub, Int.reduceAdd, Int.reduceMul, Int.reduceSub, Int.reduceNeg, Int.reduceToNat]) (by simp [LS.begin]) (by simp [LS.begin]) fun k2 hk2 => ?_)
  simp -implicitDefEqProofs (disch := first | omega | (simp only [St.set_n, St.up_n, List.length_cons, List.length_nil]; omega)) only [go_sem, Nat.reduceAdd, Nat.reduceMul, Nat.reduceSub, Int.reduceAdd, Int.reduceMul, Int.reduceSub, Int.reduceNeg, Int.reduceToNat]
  refine callF_of (log_end (S := ((⟨[], 0⟩ : LS).begin 0 op0).begin 1 op0) (j := 1) (a := an0) (by simp -implicitDefEqProofs (disch := first | omega | (simp only [St.set_n, St.up_n, List.length_cons, List.length_nil]; omega)) only [go_sem, Nat.reduceAdd, Nat.reduceMul, Nat.reduceSub, Int.reduceAdd, Int.reduceMul, Int.reduceSub, Int.reduceNeg, Int.reduceToNat]) (by simp [LS.begin]) (by simp [LS.begin]) (by simp [LS.begin]) rfl rfl fun k3 hk3 => ?_)
  simp -implicitDefEqProofs (disch := first | omega | (simp only [St.set_n, St.up_n, List.length_cons, List.length_nil]; omega)) only [go_sem, Nat.reduceAdd, Nat.reduceMul, Nat.reduceSub, Int.reduceAdd, Int.reduceMul, Int.reduceSub, Int.reduceNeg, Int.reduceToNat]
  refine callF_of (log_end (S := exS3) (j := 0) (a := an0) (by simp -implicitDefEqProofs (disch := first | omega | (simp only [St.set_n, St.up_n, List.length_cons, List.length_nil]; omega)) only [go_sem, Nat.reduceAdd, Nat.reduceMul, Nat.reduceSub, Int.reduceAdd, Int.reduceMul, Int.reduceSub, Int.reduceNeg, Int.reduceToNat]; rfl) (by decide) (by decide) (by simp) rfl rfl fun k4 hk4 => ?_)
  simp -implicitDefEqProofs (disch := first | omega | (simp only [St.set_n, St.up_n, List.length_cons, List.length_nil]; omega)) only [go_sem, Nat.reduceAdd, Nat.reduceMul, Nat.reduceSub, Int.reduceAdd, Int.reduceMul, Int.reduceSub, Int.reduceNeg, Int.reduceToNat]
  refine callF_wf (log_calls (S := exS4) (by simp -implicitDefEqProofs (disch := first | omega | (simp only [St.set_n, St.up_n, List.length_cons, List.length_nil]; omega)) only [go_sem, Nat.reduceAdd, Nat.reduceMul, Nat.reduceSub, Int.reduceAdd, Int.reduceMul, Int.reduceSub, Int.reduceNeg, Int.reduceToNat]; rfl) (by decide) fun v s ov hk hn1 hnb hws => ?_)
  have hall : (!exS4.l.any fun c => decide (c.to = 0)) = true := by decide
  rw [hall]
  obtain ⟨b, c1, sp, rfl, hc1, mb, lb, _⟩ := ov.has (by decide)
  have hlen : exS4.l.length = 2 := rfl
  have hsq := ov.sq hws
  rw [hlen] at hsq
  simp only [exS4, LS.fin, exS3, LS.begin, List.set_cons_succ, List.set_cons_zero, List.nil_append, List.cons_append, flat, List.flatMap_cons, List.flatMap_nil, fC, List.append_nil] at mb
  simp only [St.up_n, St.set_n] at hn1
  simp -implicitDefEqProofs (disch := first | omega | (simp only [St.set_n, St.up_n, List.length_cons, List.length_nil]; omega)) only [go_sem, Nat.reduceAdd, Nat.reduceMul, Nat.reduceSub, Int.reduceAdd, Int.reduceMul, Int.reduceSub, Int.reduceNeg, Int.reduceToNat, mb, hlen]
  refine callF_of (hist_right_t (l := exS4.l) (by decide) hsq ex_right fun k5 hk5 => ?_)
  simp -implicitDefEqProofs (disch := first | omega | (simp only [St.set_n, St.up_n, List.length_cons, List.length_nil]; omega)) only [go_sem, Nat.reduceAdd, Nat.reduceMul, Nat.reduceSub, Int.reduceAdd, Int.reduceMul, Int.reduceSub, Int.reduceNeg, Int.reduceToNat]
  exact ⟨_, To.same (fun d y h2 h3 => by
    have := (hk d y (by simp -implicitDefEqProofs (disch := first | omega | (simp only [St.set_n, St.up_n, List.length_cons, List.length_nil]; omega)) only [go_sem, Nat.reduceAdd, Nat.reduceMul, Nat.reduceSub, Int.reduceAdd, Int.reduceMul, Int.reduceSub, Int.reduceNeg, Int.reduceToNat, h3])).1
    simp -implicitDefEqProofs (disch := first | omega | (simp only [St.set_n, St.up_n, List.length_cons, List.length_nil]; omega)) only [go_sem, Nat.reduceAdd, Nat.reduceMul, Nat.reduceSub, Int.reduceAdd, Int.reduceMul, Int.reduceSub, Int.reduceNeg, Int.reduceToNat, this]) hwf, hK _ (by simp only [St.up_n, St.set_n] at hk0 hk1 hk2 hk3 hk4 hk5 ⊢; omega)⟩
theorem wfLow' (h : σ.wf B) {b : Nat} (hb : b < B.heap.size) : σ.m b = none := by
  cases hx : σ.m b with
  | none => rfl
  | some x => have := h.2 b x hx; omega
structure Wm (q ao : Nat) (e : Fr) : Prop where
  v3 : e.v 3 = .pointer (some ⟨q, 0, none⟩)
  v4 : e.v 4 = .pointer (some ⟨ao, 0, none⟩)
  d : e.d = []
structure Ws (σ : St) (q ao : Nat) (S : LS) (ids : List Int) (s : St) : Prop where
  lg : s.m q = some (.comp (LogR S q))
  ar : s.m ao = some (.raw (.cells (ints ids).toArray 71 (0, 0)))
  w : Wl S
  o : Opn4 S ids
  ln : S.l.length ≤ S.now
  q1 : σ.n ≤ q ∧ σ.n ≤ ao ∧ q ≠ ao ∧ q < s.n ∧ ao < s.n
  old : ∀ c x, c < σ.n → σ.m c = some x → s.m c = some x
structure Wz (σ : St) (q ao : Nat) (S : LS) (ids0 ids : List Int) (t : Nat) (s : St) : Prop where
  lg : s.m q = some (.comp (LogR S q))
  ar : s.m ao = some (.raw (.cells (ints ids0).toArray 71 (0, 0)))
  l0 : ids0.length = 4
  w : Wl S
  o : Opn4 S ids
  z : ∀ u, u < t → ids[u]? = some 0
  r : ∀ u, t ≤ u → ids[u]? = ids0[u]?
  ln : S.l.length ≤ S.now
  q1 : σ.n ≤ q ∧ σ.n ≤ ao ∧ q ≠ ao ∧ q < s.n ∧ ao < s.n
  old : ∀ c x, c < σ.n → σ.m c = some x → s.m c = some x
def RU8 (n : Int) (cs : List Value) : Prop := cs = [.int .u8 n] ∧ 0 ≤ n ∧ n ≤ 255
set_option maxHeartbeats 4000000 in
theorem well07 {l : List Int} {v : Value} (hl : SlR B 1 RU8 l v) (hK : ∀ k, σ.n ≤ k → K (.bool true) (σ.up k)) : Fn Try.prog B 7 #[v] σ K := by
  obtain ⟨a, cap, rfl, hlc, hcm, hnil, hat⟩ := hl
  refine Fn.of' is7 (by simp) fun hwf => ?_
  have hB := hwf.1
  simp only [b7, Try.f7, Option.getD_some]
  simp -implicitDefEqProofs (disch := first | omega | (simp only [St.set_n, St.up_n, List.length_cons, List.length_nil]; omega)) only [go_sem, Nat.reduceAdd, Nat.reduceMul, Nat.reduceSub, Int.reduceAdd, Int.reduceMul, Int.reduceSub, Int.reduceNeg, Int.reduceToNat]
  refine callF_of (awake07 fun k hk => ?_)
  simp -implicitDefEqProofs (disch := first | omega | (simp only [St.set_n, St.up_n, List.length_cons, List.length_nil]; omega)) only [go_sem, Nat.reduceAdd, Nat.reduceMul, Nat.reduceSub, Int.reduceAdd, Int.reduceMul, Int.reduceSub, Int.reduceNeg, Int.reduceToNat]
  by_cases h300 : (300 : Int) < l.length
  · simp -implicitDefEqProofs (disch := first | omega | (simp only [St.set_n, St.up_n, List.length_cons, List.length_nil]; omega)) only [go_sem, Nat.reduceAdd, Nat.reduceMul, Nat.reduceSub, Int.reduceAdd, Int.reduceMul, Int.reduceSub, Int.reduceNeg, Int.reduceToNat, h300]
    exact ⟨_, To.same (fun d y h2 h3 => by simp -implicitDefEqProofs (disch := first | omega | (simp only [St.set_n, St.up_n, List.length_cons, List.length_nil]; omega)) only [go_sem, Nat.reduceAdd, Nat.reduceMul, Nat.reduceSub, Int.reduceAdd, Int.reduceMul, Int.reduceSub, Int.reduceNeg, Int.reduceToNat, h3]) hwf, hK _ (by simp only [St.up_n]; omega)⟩
  simp -implicitDefEqProofs (disch := first | omega | (simp only [St.set_n, St.up_n, List.length_cons, List.length_nil]; omega)) only [go_sem, Nat.reduceAdd, Nat.reduceMul, Nat.reduceSub, Int.reduceAdd, Int.reduceMul, Int.reduceSub, Int.reduceNeg, Int.reduceToNat, h300]
  refine callF_of (log_new fun k1 hk1 => ?_)
  simp only [St.up_n] at hk1
  simp -implicitDefEqProofs (disch := first | omega | (simp only [St.set_n, St.up_n, List.length_cons, List.length_nil]; omega)) only [go_sem, Nat.reduceAdd, Nat.reduceMul, Nat.reduceSub, Int.reduceAdd, Int.reduceMul, Int.reduceSub, Int.reduceNeg, Int.reduceToNat]
  have hW0 : Ws σ k k1 ⟨[], 0⟩ [0, 0, 0, 0] (((σ.set k (.comp (LogR ⟨[], 0⟩ k))).set k1 (.raw (.cells #[.int .i64 0, .int .i64 0, .int .i64 0, .int .i64 0] 71 (0, 0)))).up (k1 + 1)) :=
    ⟨by simp -implicitDefEqProofs (disch := first | omega | (simp only [St.set_n, St.up_n, List.length_cons, List.length_nil]; omega)) only [go_sem, Nat.reduceAdd, Nat.reduceMul, Nat.reduceSub, Int.reduceAdd, Int.reduceMul, Int.reduceSub, Int.reduceNeg, Int.reduceToNat], by simp -implicitDefEqProofs (disch := first | omega | (simp only [St.set_n, St.up_n, List.length_cons, List.length_nil]; omega)) only [go_sem, Nat.reduceAdd, Nat.reduceMul, Nat.reduceSub, Int.reduceAdd, Int.reduceMul, Int.reduceSub, Int.reduceNeg, Int.reduceToNat]; rfl, Wl.nil, Opn4.nil, Nat.le_refl _, by simp only [St.up_n]; omega, fun c x hc hx => by simp -implicitDefEqProofs (disch := first | omega | (simp only [St.set_n, St.up_n, List.length_cons, List.length_nil]; omega)) only [go_sem, Nat.reduceAdd, Nat.reduceMul, Nat.reduceSub, Int.reduceAdd, Int.reduceMul, Int.reduceSub, Int.reduceNeg, Int.reduceToNat, hx]⟩
  generalize ((σ.set k (.comp (LogR ⟨[], 0⟩ k))).set k1 (.raw (.cells #[.int .i64 0, .int .i64 0, .int .i64 0, .int .i64 0] 71 (0, 0)))).up (k1 + 1) = s0 at hW0 ⊢
  refine loop_rule (fun m e s => ∃ (i : Nat) (S : LS) (ids : List Int), m = l.length - i ∧ i ≤ l.length ∧ Wm k k1 e ∧ e.v 0 = .slice a l.length cap ∧ e.v 5 = .int .i64 i ∧ Ws σ k k1 S ids s ∧ S.now ≤ i) l.length ?_ ?_
  · exact ⟨0, ⟨[], 0⟩, [0, 0, 0, 0], by omega, by omega, ⟨by simp -implicitDefEqProofs (disch := first | omega | (simp only [St.set_n, St.up_n, List.length_cons, List.length_nil]; omega)) only [go_sem, Nat.reduceAdd, Nat.reduceMul, Nat.reduceSub, Int.reduceAdd, Int.reduceMul, Int.reduceSub, Int.reduceNeg, Int.reduceToNat], by simp -implicitDefEqProofs (disch := first | omega | (simp only [St.set_n, St.up_n, List.length_cons, List.length_nil]; omega)) only [go_sem, Nat.reduceAdd, Nat.reduceMul, Nat.reduceSub, Int.reduceAdd, Int.reduceMul, Int.reduceSub, Int.reduceNeg, Int.reduceToNat], by simp -implicitDefEqProofs (disch := first | omega | (simp only [St.set_n, St.up_n, List.length_cons, List.length_nil]; omega)) only [go_sem, Nat.reduceAdd, Nat.reduceMul, Nat.reduceSub, Int.reduceAdd, Int.reduceMul, Int.reduceSub, Int.reduceNeg, Int.reduceToNat]⟩, by simp -implicitDefEqProofs (disch := first | omega | (simp only [St.set_n, St.up_n, List.length_cons, List.length_nil]; omega)) only [go_sem, Nat.reduceAdd, Nat.reduceMul, Nat.reduceSub, Int.reduceAdd, Int.reduceMul, Int.reduceSub, Int.reduceNeg, Int.reduceToNat], by simp -implicitDefEqProofs (disch := first | omega | (simp only [St.set_n, St.up_n, List.length_cons, List.length_nil]; omega)) only [go_sem, Nat.reduceAdd, Nat.reduceMul, Nat.reduceSub, Int.reduceAdd, Int.reduceMul, Int.reduceSub, Int.reduceNeg, Int.reduceToNat]; rfl, hW0, Nat.le_refl _⟩
  clear hW0
  rintro m e s hws ⟨i, S, ids, hm, hi, ⟨q3, q4, hd⟩, q0, q5, hW, hnow⟩
  have hq1 := hW.q1
  have har := hW.ar
  have hlg := hW.lg
  have hln := hW.ln
  have hidl := hW.o.len
  by_cases hlt : (i : Int) < l.length
  · obtain ⟨x, hx⟩ : ∃ x, l[i]? = some x := ⟨l[i]'(by omega), List.getElem?_eq_getElem (by omega)⟩
    obtain ⟨b, o, cs, rfl, hb, ⟨rfl, hx0, hx1⟩, hsz, hcell⟩ := hat i x hx
    have c0 : B.cell? ⟨b, o + i * 1, none⟩ = _ := hcell 0 _ rfl
    rw [Nat.mul_one] at c0
    have hsb : s.m b = none := wfLow' hws hb
    obtain ⟨t, ht, ht4⟩ : ∃ t : Nat, x.tmod 4 = t ∧ t < 4 := ⟨(x % 4).toNat, by rw [Int.tmod_eq_emod_of_nonneg hx0]; omega, by omega⟩
    obtain ⟨y, hy⟩ : ∃ y, ids[t]? = some y := ⟨ids[t]'(by omega), List.getElem?_eq_getElem (by omega)⟩
    have gy := ints_get hy []
    rw [List.append_nil] at gy
    have ht4' : (t : Int) < 4 := by omega
    have hwx : IntKind.i64.wrap x = x := wrap_i64 (by omega)
    have hil : (ints ids).length = 4 := by rw [ints_len]; exact hidl
    have hst : ∀ z : Int, (ints ids).set t (.int .i64 z) = ints (ids.set t z) := fun z => by simp [ints, List.map_set]
    by_cases hy0 : y = 0
    · subst hy0
      simp -implicitDefEqProofs (disch := first | omega | (simp only [St.set_n, St.up_n, List.length_cons, List.length_nil]; omega)) only [go_sem, Nat.reduceAdd, Nat.reduceMul, Nat.reduceSub, Int.reduceAdd, Int.reduceMul, Int.reduceSub, Int.reduceNeg, Int.reduceToNat, q0, q3, q4, q5, hlt, hsb, hb, c0, hwx, ht, har, gy, ht4']
      refine callF_of (log_begin (t := t) (op := ⟨x, 0, ⟨#[]⟩, ⟨#[]⟩, false⟩) hlg (by omega) (by omega) fun k2 hk2 => ?_)
      have hst1 := hst (S.l.length + 1)
      simp -implicitDefEqProofs (disch := first | omega | (simp only [St.set_n, St.up_n, List.length_cons, List.length_nil]; omega)) only [go_sem, Nat.reduceAdd, Nat.reduceMul, Nat.reduceSub, Int.reduceAdd, Int.reduceMul, Int.reduceSub, Int.reduceNeg, Int.reduceToNat, q4, q5, har, gy, ht4', hil, hst1]
      have hno : ∀ (j : Nat) (c : Cl), S.l[j]? = some c → c.th = t → c.to ≠ 0 := by
        rcases hW.o.id t 0 hy with ⟨_, h3⟩ | ⟨j, c, h3, _⟩
        · exact h3
        · omega
      exact ⟨l.length - (i + 1), by omega, i + 1, S.begin t ⟨x, 0, ⟨#[]⟩, ⟨#[]⟩, false⟩, ids.set t (S.l.length + 1), rfl, by omega, ⟨by simp -implicitDefEqProofs (disch := first | omega | (simp only [St.set_n, St.up_n, List.length_cons, List.length_nil]; omega)) only [go_sem, Nat.reduceAdd, Nat.reduceMul, Nat.reduceSub, Int.reduceAdd, Int.reduceMul, Int.reduceSub, Int.reduceNeg, Int.reduceToNat, q3], by simp -implicitDefEqProofs (disch := first | omega | (simp only [St.set_n, St.up_n, List.length_cons, List.length_nil]; omega)) only [go_sem, Nat.reduceAdd, Nat.reduceMul, Nat.reduceSub, Int.reduceAdd, Int.reduceMul, Int.reduceSub, Int.reduceNeg, Int.reduceToNat, q4], by simp -implicitDefEqProofs (disch := first | omega | (simp only [St.set_n, St.up_n, List.length_cons, List.length_nil]; omega)) only [go_sem, Nat.reduceAdd, Nat.reduceMul, Nat.reduceSub, Int.reduceAdd, Int.reduceMul, Int.reduceSub, Int.reduceNeg, Int.reduceToNat, hd]⟩, by simp -implicitDefEqProofs (disch := first | omega | (simp only [St.set_n, St.up_n, List.length_cons, List.length_nil]; omega)) only [go_sem, Nat.reduceAdd, Nat.reduceMul, Nat.reduceSub, Int.reduceAdd, Int.reduceMul, Int.reduceSub, Int.reduceNeg, Int.reduceToNat, q0], by first | rfl | (simp -implicitDefEqProofs (disch := first | omega | (simp only [St.set_n, St.up_n, List.length_cons, List.length_nil]; omega)) only [go_sem, Nat.reduceAdd, Nat.reduceMul, Nat.reduceSub, Int.reduceAdd, Int.reduceMul, Int.reduceSub, Int.reduceNeg, Int.reduceToNat]; rfl),
        ⟨by simp -implicitDefEqProofs (disch := first | omega | (simp only [St.set_n, St.up_n, List.length_cons, List.length_nil]; omega)) only [go_sem, Nat.reduceAdd, Nat.reduceMul, Nat.reduceSub, Int.reduceAdd, Int.reduceMul, Int.reduceSub, Int.reduceNeg, Int.reduceToNat], by simp -implicitDefEqProofs (disch := first | omega | (simp only [St.set_n, St.up_n, List.length_cons, List.length_nil]; omega)) only [go_sem, Nat.reduceAdd, Nat.reduceMul, Nat.reduceSub, Int.reduceAdd, Int.reduceMul, Int.reduceSub, Int.reduceNeg, Int.reduceToNat], hW.w.begin _ hln hno, hW.o.begin _ ht4 hy, by simp [LS.begin]; omega, by simp only [St.up_n, St.set_n]; omega, fun c x hc hx => by have := hW.old c x hc hx; simp -implicitDefEqProofs (disch := first | omega | (simp only [St.set_n, St.up_n, List.length_cons, List.length_nil]; omega)) only [go_sem, Nat.reduceAdd, Nat.reduceMul, Nat.reduceSub, Int.reduceAdd, Int.reduceMul, Int.reduceSub, Int.reduceNeg, Int.reduceToNat, this]⟩, by simp only [LS.begin]; omega⟩
    · obtain ⟨j, c, rfl, hc, hct, hc0, hoth⟩ := (hW.o.id t y hy).resolve_left fun h => hy0 h.1
      have hjl := (List.getElem?_eq_some_iff.1 hc).1
      simp -implicitDefEqProofs (disch := first | omega | (simp only [St.set_n, St.up_n, List.length_cons, List.length_nil]; omega)) only [go_sem, Nat.reduceAdd, Nat.reduceMul, Nat.reduceSub, Int.reduceAdd, Int.reduceMul, Int.reduceSub, Int.reduceNeg, Int.reduceToNat, q0, q3, q4, q5, hlt, hsb, hb, c0, hwx, ht, har, gy, ht4', hy0]
      refine callF_of (log_end (a := ⟨0, i, 0, ⟨#[]⟩, ⟨#[]⟩, false⟩) hlg (by omega) (by omega) rfl hc hc0 fun k2 hk2 => ?_)
      have hst1 := hst 0
      simp -implicitDefEqProofs (disch := first | omega | (simp only [St.set_n, St.up_n, List.length_cons, List.length_nil]; omega)) only [go_sem, Nat.reduceAdd, Nat.reduceMul, Nat.reduceSub, Int.reduceAdd, Int.reduceMul, Int.reduceSub, Int.reduceNeg, Int.reduceToNat, q4, q5, har, gy, ht4', hil, hst1]
      have hl2 : (S.l.set j { c with an := ⟨0, i, 0, ⟨#[]⟩, ⟨#[]⟩, false⟩, to := S.now + 1 }).length = S.l.length := List.length_set
      exact ⟨l.length - (i + 1), by omega, i + 1, S.fin j c ⟨0, i, 0, ⟨#[]⟩, ⟨#[]⟩, false⟩, ids.set t 0, rfl, by omega, ⟨by simp -implicitDefEqProofs (disch := first | omega | (simp only [St.set_n, St.up_n, List.length_cons, List.length_nil]; omega)) only [go_sem, Nat.reduceAdd, Nat.reduceMul, Nat.reduceSub, Int.reduceAdd, Int.reduceMul, Int.reduceSub, Int.reduceNeg, Int.reduceToNat, q3], by simp -implicitDefEqProofs (disch := first | omega | (simp only [St.set_n, St.up_n, List.length_cons, List.length_nil]; omega)) only [go_sem, Nat.reduceAdd, Nat.reduceMul, Nat.reduceSub, Int.reduceAdd, Int.reduceMul, Int.reduceSub, Int.reduceNeg, Int.reduceToNat, q4], by simp -implicitDefEqProofs (disch := first | omega | (simp only [St.set_n, St.up_n, List.length_cons, List.length_nil]; omega)) only [go_sem, Nat.reduceAdd, Nat.reduceMul, Nat.reduceSub, Int.reduceAdd, Int.reduceMul, Int.reduceSub, Int.reduceNeg, Int.reduceToNat, hd]⟩, by simp -implicitDefEqProofs (disch := first | omega | (simp only [St.set_n, St.up_n, List.length_cons, List.length_nil]; omega)) only [go_sem, Nat.reduceAdd, Nat.reduceMul, Nat.reduceSub, Int.reduceAdd, Int.reduceMul, Int.reduceSub, Int.reduceNeg, Int.reduceToNat, q0], by first | rfl | (simp -implicitDefEqProofs (disch := first | omega | (simp only [St.set_n, St.up_n, List.length_cons, List.length_nil]; omega)) only [go_sem, Nat.reduceAdd, Nat.reduceMul, Nat.reduceSub, Int.reduceAdd, Int.reduceMul, Int.reduceSub, Int.reduceNeg, Int.reduceToNat]; rfl),
        ⟨by simp -implicitDefEqProofs (disch := first | omega | (simp only [St.set_n, St.up_n, List.length_cons, List.length_nil]; omega)) only [go_sem, Nat.reduceAdd, Nat.reduceMul, Nat.reduceSub, Int.reduceAdd, Int.reduceMul, Int.reduceSub, Int.reduceNeg, Int.reduceToNat]; rfl, by simp -implicitDefEqProofs (disch := first | omega | (simp only [St.set_n, St.up_n, List.length_cons, List.length_nil]; omega)) only [go_sem, Nat.reduceAdd, Nat.reduceMul, Nat.reduceSub, Int.reduceAdd, Int.reduceMul, Int.reduceSub, Int.reduceNeg, Int.reduceToNat], hW.w.fin _ hc hc0, hW.o.fin _ ht4 hy hc, by simp only [LS.fin, hl2]; omega, by simp only [St.up_n, St.set_n]; omega, fun c x hc hx => by have := hW.old c x hc hx; simp -implicitDefEqProofs (disch := first | omega | (simp only [St.set_n, St.up_n, List.length_cons, List.length_nil]; omega)) only [go_sem, Nat.reduceAdd, Nat.reduceMul, Nat.reduceSub, Int.reduceAdd, Int.reduceMul, Int.reduceSub, Int.reduceNeg, Int.reduceToNat, this]⟩, by simp only [LS.fin]; omega⟩
  · simp -implicitDefEqProofs (disch := first | omega | (simp only [St.set_n, St.up_n, List.length_cons, List.length_nil]; omega)) only [go_sem, Nat.reduceAdd, Nat.reduceMul, Nat.reduceSub, Int.reduceAdd, Int.reduceMul, Int.reduceSub, Int.reduceNeg, Int.reduceToNat, q0, q3, q4, q5, hlt]
    refine loop_rule (fun m e s => ∃ (t : Nat) (S : LS) (ids' : List Int), m = 4 - t ∧ t ≤ 4 ∧ Wm k k1 e ∧ e.v 7 = .int .i64 t ∧ Wz σ k k1 S ids ids' t s ∧ S.now ≤ 300 + t) 4 ?_ ?_
    · exact ⟨0, S, ids, by omega, by omega, ⟨by simp -implicitDefEqProofs (disch := first | omega | (simp only [St.set_n, St.up_n, List.length_cons, List.length_nil]; omega)) only [go_sem, Nat.reduceAdd, Nat.reduceMul, Nat.reduceSub, Int.reduceAdd, Int.reduceMul, Int.reduceSub, Int.reduceNeg, Int.reduceToNat, q3], by simp -implicitDefEqProofs (disch := first | omega | (simp only [St.set_n, St.up_n, List.length_cons, List.length_nil]; omega)) only [go_sem, Nat.reduceAdd, Nat.reduceMul, Nat.reduceSub, Int.reduceAdd, Int.reduceMul, Int.reduceSub, Int.reduceNeg, Int.reduceToNat, q4], by simp -implicitDefEqProofs (disch := first | omega | (simp only [St.set_n, St.up_n, List.length_cons, List.length_nil]; omega)) only [go_sem, Nat.reduceAdd, Nat.reduceMul, Nat.reduceSub, Int.reduceAdd, Int.reduceMul, Int.reduceSub, Int.reduceNeg, Int.reduceToNat, hd]⟩, by simp -implicitDefEqProofs (disch := first | omega | (simp only [St.set_n, St.up_n, List.length_cons, List.length_nil]; omega)) only [go_sem, Nat.reduceAdd, Nat.reduceMul, Nat.reduceSub, Int.reduceAdd, Int.reduceMul, Int.reduceSub, Int.reduceNeg, Int.reduceToNat]; rfl, ⟨hW.lg, hW.ar, hW.o.len, hW.w, hW.o, fun u hu => by omega, fun u _ => rfl, hW.ln, hW.q1, hW.old⟩, by omega⟩
    clear hW hq1 har hlg hln hidl q0 q3 q4 q5 hd hnow S
    rintro m e s hws ⟨t, S, ids', hm, ht, ⟨q3, q4, hd⟩, q7, hW, hnow⟩
    have hq1 := hW.q1
    have har := hW.ar
    have hlg := hW.lg
    have hln := hW.ln
    have hidl := hW.l0
    have hz := hW.z
    by_cases htl : (t : Int) < 4
    · obtain ⟨y, hy⟩ : ∃ y, ids[t]? = some y := ⟨ids[t]'(by omega), List.getElem?_eq_getElem (by omega)⟩
      have hy' := (hW.r t (Nat.le_refl _)).trans hy
      have gy := ints_get hy []
      rw [List.append_nil] at gy
      by_cases hy0 : y = 0
      · subst hy0
        simp -implicitDefEqProofs (disch := first | omega | (simp only [St.set_n, St.up_n, List.length_cons, List.length_nil]; omega)) only [go_sem, Nat.reduceAdd, Nat.reduceMul, Nat.reduceSub, Int.reduceAdd, Int.reduceMul, Int.reduceSub, Int.reduceNeg, Int.reduceToNat, q3, q4, q7, htl, har, gy]
        refine ⟨4 - (t + 1), by omega, t + 1, S, ids', rfl, by omega, ⟨by simp -implicitDefEqProofs (disch := first | omega | (simp only [St.set_n, St.up_n, List.length_cons, List.length_nil]; omega)) only [go_sem, Nat.reduceAdd, Nat.reduceMul, Nat.reduceSub, Int.reduceAdd, Int.reduceMul, Int.reduceSub, Int.reduceNeg, Int.reduceToNat, q3], by simp -implicitDefEqProofs (disch := first | omega | (simp only [St.set_n, St.up_n, List.length_cons, List.length_nil]; omega)) only [go_sem, Nat.reduceAdd, Nat.reduceMul, Nat.reduceSub, Int.reduceAdd, Int.reduceMul, Int.reduceSub, Int.reduceNeg, Int.reduceToNat, q4], by simp -implicitDefEqProofs (disch := first | omega | (simp only [St.set_n, St.up_n, List.length_cons, List.length_nil]; omega)) only [go_sem, Nat.reduceAdd, Nat.reduceMul, Nat.reduceSub, Int.reduceAdd, Int.reduceMul, Int.reduceSub, Int.reduceNeg, Int.reduceToNat, hd]⟩, by first | rfl | (simp -implicitDefEqProofs (disch := first | omega | (simp only [St.set_n, St.up_n, List.length_cons, List.length_nil]; omega)) only [go_sem, Nat.reduceAdd, Nat.reduceMul, Nat.reduceSub, Int.reduceAdd, Int.reduceMul, Int.reduceSub, Int.reduceNeg, Int.reduceToNat]; rfl), ⟨hlg, har, hidl, hW.w, hW.o, fun u hu => ?_, fun u hu => hW.r u (by omega), hln, hq1, hW.old⟩, by omega⟩
        by_cases e1 : u = t
        · subst e1; exact hy'
        · exact hz u (by omega)
      · obtain ⟨j, c, rfl, hc, hct, hc0, hoth⟩ := (hW.o.id t y hy').resolve_left fun h => hy0 h.1
        have hjl := (List.getElem?_eq_some_iff.1 hc).1
        simp -implicitDefEqProofs (disch := first | omega | (simp only [St.set_n, St.up_n, List.length_cons, List.length_nil]; omega)) only [go_sem, Nat.reduceAdd, Nat.reduceMul, Nat.reduceSub, Int.reduceAdd, Int.reduceMul, Int.reduceSub, Int.reduceNeg, Int.reduceToNat, q3, q4, q7, htl, har, gy, hy0]
        refine callF_of (log_end (a := an0) hlg (by omega) (by omega) rfl hc hc0 fun k2 hk2 => ?_)
        simp -implicitDefEqProofs (disch := first | omega | (simp only [St.set_n, St.up_n, List.length_cons, List.length_nil]; omega)) only [go_sem, Nat.reduceAdd, Nat.reduceMul, Nat.reduceSub, Int.reduceAdd, Int.reduceMul, Int.reduceSub, Int.reduceNeg, Int.reduceToNat, q7]
        have hl2 : (S.l.set j { c with an := an0, to := S.now + 1 }).length = S.l.length := List.length_set
        have hl4 := hW.o.len
        refine ⟨4 - (t + 1), by omega, t + 1, S.fin j c an0, ids'.set t 0, rfl, by omega, ⟨by simp -implicitDefEqProofs (disch := first | omega | (simp only [St.set_n, St.up_n, List.length_cons, List.length_nil]; omega)) only [go_sem, Nat.reduceAdd, Nat.reduceMul, Nat.reduceSub, Int.reduceAdd, Int.reduceMul, Int.reduceSub, Int.reduceNeg, Int.reduceToNat, q3], by simp -implicitDefEqProofs (disch := first | omega | (simp only [St.set_n, St.up_n, List.length_cons, List.length_nil]; omega)) only [go_sem, Nat.reduceAdd, Nat.reduceMul, Nat.reduceSub, Int.reduceAdd, Int.reduceMul, Int.reduceSub, Int.reduceNeg, Int.reduceToNat, q4], by simp -implicitDefEqProofs (disch := first | omega | (simp only [St.set_n, St.up_n, List.length_cons, List.length_nil]; omega)) only [go_sem, Nat.reduceAdd, Nat.reduceMul, Nat.reduceSub, Int.reduceAdd, Int.reduceMul, Int.reduceSub, Int.reduceNeg, Int.reduceToNat, hd]⟩, by first | rfl | (simp -implicitDefEqProofs (disch := first | omega | (simp only [St.set_n, St.up_n, List.length_cons, List.length_nil]; omega)) only [go_sem, Nat.reduceAdd, Nat.reduceMul, Nat.reduceSub, Int.reduceAdd, Int.reduceMul, Int.reduceSub, Int.reduceNeg, Int.reduceToNat]; rfl), ⟨by simp -implicitDefEqProofs (disch := first | omega | (simp only [St.set_n, St.up_n, List.length_cons, List.length_nil]; omega)) only [go_sem, Nat.reduceAdd, Nat.reduceMul, Nat.reduceSub, Int.reduceAdd, Int.reduceMul, Int.reduceSub, Int.reduceNeg, Int.reduceToNat]; rfl, by simp -implicitDefEqProofs (disch := first | omega | (simp only [St.set_n, St.up_n, List.length_cons, List.length_nil]; omega)) only [go_sem, Nat.reduceAdd, Nat.reduceMul, Nat.reduceSub, Int.reduceAdd, Int.reduceMul, Int.reduceSub, Int.reduceNeg, Int.reduceToNat, har], hidl, hW.w.fin _ hc hc0, hW.o.fin _ (by omega) hy' hc, fun u hu => ?_, fun u hu => ?_, by simp only [LS.fin, hl2]; omega, by simp only [St.up_n, St.set_n]; omega, fun c x hc hx => by have := hW.old c x hc hx; simp -implicitDefEqProofs (disch := first | omega | (simp only [St.set_n, St.up_n, List.length_cons, List.length_nil]; omega)) only [go_sem, Nat.reduceAdd, Nat.reduceMul, Nat.reduceSub, Int.reduceAdd, Int.reduceMul, Int.reduceSub, Int.reduceNeg, Int.reduceToNat, this]⟩, by simp only [LS.fin]; omega⟩
        · by_cases e1 : u = t
          · subst e1; rw [List.getElem?_set_self (by omega)]
          · rw [List.getElem?_set_ne (Ne.symm e1)]; exact hz u (by omega)
        · rw [List.getElem?_set_ne (by omega)]; exact hW.r u (by omega)
    · simp -implicitDefEqProofs (disch := first | omega | (simp only [St.set_n, St.up_n, List.length_cons, List.length_nil]; omega)) only [go_sem, Nat.reduceAdd, Nat.reduceMul, Nat.reduceSub, Int.reduceAdd, Int.reduceMul, Int.reduceSub, Int.reduceNeg, Int.reduceToNat, q3, q4, q7, htl]
      have ht4 : t = 4 := by omega
      subst ht4
      have hall : ∀ (j : Nat) (c : Cl), S.l[j]? = some c → c.to ≠ 0 := fun j c hc => by
        obtain ⟨u, hu, hu4⟩ := hW.o.th j c hc
        rcases hW.o.id u 0 (hz u hu4) with ⟨_, h3⟩ | ⟨j', c', h3, _⟩
        · exact h3 j c hc hu
        · omega
      have hrt := hW.w.right hall
      have hany : (!S.l.any fun c => decide (c.to = 0)) = true := by
        rw [Bool.not_eq_true', List.any_eq_false]
        intro c hc
        obtain ⟨j, hj⟩ := List.getElem?_of_mem hc
        simpa using hall j c hj
      refine callF_wf (log_calls hlg (by omega) fun v s1 ov hk hn1 hnb hws1 => ?_)
      rw [hany]
      simp -implicitDefEqProofs (disch := first | omega | (simp only [St.set_n, St.up_n, List.length_cons, List.length_nil]; omega)) only [go_sem, Nat.reduceAdd, Nat.reduceMul, Nat.reduceSub, Int.reduceAdd, Int.reduceMul, Int.reduceSub, Int.reduceNeg, Int.reduceToNat]
      refine callF_of (log_calls_nil fun k2 hk2 => ?_)
      simp -implicitDefEqProofs (disch := first | omega | (simp only [St.set_n, St.up_n, List.length_cons, List.length_nil]; omega)) only [go_sem, Nat.reduceAdd, Nat.reduceMul, Nat.reduceSub, Int.reduceAdd, Int.reduceMul, Int.reduceSub, Int.reduceNeg, Int.reduceToNat]
      have hsq1 := ov.sq hws1
      refine callF_of (hist_right_t (by omega) (hsq1.keep (fun b _ _ => rfl) hk2) hrt fun k3 hk3 => ?_)
      simp only [St.up_n] at hk3
      simp -implicitDefEqProofs (disch := first | omega | (simp only [St.set_n, St.up_n, List.length_cons, List.length_nil]; omega)) only [go_sem, Nat.reduceAdd, Nat.reduceMul, Nat.reduceSub, Int.reduceAdd, Int.reduceMul, Int.reduceSub, Int.reduceNeg, Int.reduceToNat]
      refine callF_of (ref_right_t (by omega) (hsq1.keep (fun b _ _ => rfl) (by simp only [St.up_n]; omega)) hrt ?_)
      simp -implicitDefEqProofs (disch := first | omega | (simp only [St.set_n, St.up_n, List.length_cons, List.length_nil]; omega)) only [go_sem, Nat.reduceAdd, Nat.reduceMul, Nat.reduceSub, Int.reduceAdd, Int.reduceMul, Int.reduceSub, Int.reduceNeg, Int.reduceToNat]
      refine callF_of (log_begin_nil (op := op0) fun k4 hk4 => ?_)
      simp only [St.up_n] at hk4
      simp -implicitDefEqProofs (disch := first | omega | (simp only [St.set_n, St.up_n, List.length_cons, List.length_nil]; omega)) only [go_sem, Nat.reduceAdd, Nat.reduceMul, Nat.reduceSub, Int.reduceAdd, Int.reduceMul, Int.reduceSub, Int.reduceNeg, Int.reduceToNat]
      refine callF_of (log_end_nil (a := an0) fun k5 hk5 => ?_)
      simp only [St.up_n] at hk5
      simp -implicitDefEqProofs (disch := first | omega | (simp only [St.set_n, St.up_n, List.length_cons, List.length_nil]; omega)) only [go_sem, Nat.reduceAdd, Nat.reduceMul, Nat.reduceSub, Int.reduceAdd, Int.reduceMul, Int.reduceSub, Int.reduceNeg, Int.reduceToNat, hd]
      exact ⟨_, To.same (fun d y h2 h3 => by have := (hk d y (hW.old d y h2 h3)).1; simp -implicitDefEqProofs (disch := first | omega | (simp only [St.set_n, St.up_n, List.length_cons, List.length_nil]; omega)) only [go_sem, Nat.reduceAdd, Nat.reduceMul, Nat.reduceSub, Int.reduceAdd, Int.reduceMul, Int.reduceSub, Int.reduceNeg, Int.reduceToNat, this]) hwf, hK _ (by simp only [St.up_n]; omega)⟩
end
end Go.Proofs.Ytgcojbgkenndhaa
