/- 'SchedAll': the walk. -/
import Derived.Test.YtgcojbgkenndhaaAllF
import Derived.Test.YtgcojbgkenndhaaRuns06
namespace Go.Proofs.Ytgcojbgkenndhaa
set_option linter.unusedSimpArgs false
set_option linter.unusedVariables false
set_option maxRecDepth 100000
open Go Go.RowKit
section
variable {B : World} {σ τ : St} {K : Value → St → Prop}
theorem one_fold {k : Nat} : ∃ s2, To B ((σ.set k z82).up (k + 1)) s2 ∧ s2.m k = some (.comp (WoR w0 k)) ∧ (∀ c, c < k → s2.m c = σ.m c) ∧ s2.n = k + 1 := by
  have h1 : ((σ.set k z82).up (k + 1)).m k = some z82 := by simp -implicitDefEqProofs (disch := first | omega | (simp only [St.set_n, St.up_n, List.length_cons, List.length_nil]; omega)) only [go_sem, Nat.reduceAdd, Nat.reduceMul, Nat.reduceSub, Int.reduceAdd, Int.reduceMul, Int.reduceSub, Int.reduceNeg, Int.reduceToNat]
  refine ⟨_, box_fold h1, by simp -implicitDefEqProofs (disch := first | omega | (simp only [St.set_n, St.up_n, List.length_cons, List.length_nil]; omega)) only [go_sem, Nat.reduceAdd, Nat.reduceMul, Nat.reduceSub, Int.reduceAdd, Int.reduceMul, Int.reduceSub, Int.reduceNeg, Int.reduceToNat], fun c hc => by simp -implicitDefEqProofs (disch := first | omega | (simp only [St.set_n, St.up_n, List.length_cons, List.length_nil]; omega)) only [go_sem, Nat.reduceAdd, Nat.reduceMul, Nat.reduceSub, Int.reduceAdd, Int.reduceMul, Int.reduceSub, Int.reduceNeg, Int.reduceToNat], rfl⟩
structure AlF (pv tv : Value) (q : Nat) (A : Option Addr) (n c all : Nat) (e : Fr) : Prop where
  v0 : e.v 0 = pv
  v1 : e.v 1 = tv
  v5 : e.v 5 = .pointer (some ⟨q, 0, none⟩)
  v6 : e.v 6 = .slice A n c
  v7 : e.v 7 = .int .i64 all
  d : e.d = []
structure AlI (i : Nat) (e : Fr) : Prop where
  v8 : e.v 8 = .int .i64 i
structure AlJ (A : Option Addr) (k c : Nat) (e : Fr) : Prop where
  v9 : e.v 9 = .slice A k c
  v10 : e.v 10 = .int .i64 k
theorem Own.keepT {ty : TypeId} {sz n : Nat} {cs : List Value} {v : Value} {s s' : St} (h : Own s ty sz cs n v) (hk : ∀ b c, s.m b = some (.raw (.cells c ty (0, 0))) → s'.m b = some (.raw (.cells c ty (0, 0)))) : Own s' ty sz cs n v := by
  obtain ⟨h1, h | ⟨b, cap, sp, rfl, h2, h3, h4⟩⟩ := h
  · exact ⟨h1, .inl h⟩
  · exact ⟨h1, .inr ⟨b, cap, sp, rfl, h2, hk _ _ h3, h4⟩⟩
theorem tot_bd {th : List (List (Int × Int))} (hs : Sm th) : ∀ n, n ≤ th.length → tot (lenT th) n ≤ 60 * n
  | 0, _ => by simp [tot]
  | n + 1, h => by
    have := tot_bd hs n (by omega)
    have := hs.l n (by omega)
    rw [tot]; omega
/-- How often a thread has moved. -/
def cn (mv : List Int) (i : Nat) (u : Nat) : Nat := (mv.take i).count (u : Int)
theorem cn_le (mv : List Int) (i u : Nat) : cn mv i u ≤ mv.length := by
  unfold cn
  have h1 := List.count_le_length (a := (u : Int)) (l := mv.take i)
  have h2 : (mv.take i).length ≤ mv.length := by simp; omega
  omega
theorem cn_succ {mv : List Int} {i t : Nat} (h : mv[i]? = some (t : Int)) : cn mv (i + 1) = updAt (cn mv i) t := funext fun u => by
  unfold cn updAt
  rw [List.take_add_one, h]
  simp only [Option.toList_some, List.count_append]
  by_cases e : u = t
  · subst e; simp
  · have : ¬ (t : Int) = (u : Int) := by omega
    simp [e, List.count_cons, this]
theorem pxs_get' {px : Nat → Nat} {n t : Nat} (ht : t < n) : (pxs px n)[t]? = some (.int .i64 (px t)) := by
  have := pxs_get (px := px) ht []
  simpa using this
theorem pxs_set' {px : Nat → Nat} {n t : Nat} (ht : t < n) : (pxs px n).set t (.int .i64 ((px t : Int) + 1)) = pxs (updAt px t) n := by
  have := pxs_set (px := px) ht []
  simpa using this
structure AlK (A : Option Addr) (n c x11 bq : Nat) (e : Fr) : Prop where
  v6 : e.v 6 = .slice A n c
  v11 : e.v 11 = .pointer (some ⟨x11, 0, none⟩)
  v12 : e.v 12 = .slice (some ⟨bq, 0, none⟩) n n
  d : e.d = []
structure AlL (i : Nat) (e : Fr) : Prop where
  v13 : e.v 13 = .int .i64 i
structure AlM (i : Nat) (e : Fr) : Prop where
  v14 : e.v 14 = .int .i64 i
structure CnS (s0 : St) (k : Nat) (s : St) : Prop where
  eq : s = s0.up k
set_option maxHeartbeats 16000000 in
theorem all06 {th : List (List (Int × Int))} {tv pv : Value} {picks : List Int} (hv : SlR B 1 (RTh B) th tv) (hp : SlR B 1 RInt picks pv) (hK : ∀ k, σ.n ≤ k → K (.bool true) (σ.up k)) : Fn Try.prog B 10 #[pv, tv] σ K := by
  refine Fn.ofS is10 (by simp) fun hwf => ?_
  have hB := hwf.1
  have hvR := RdV.of hv
  obtain ⟨a, cap, rfl, hat⟩ := hvR.ex
  simp only [b10, Try.f10, Option.getD_some]
  refine SemS.seqw fun _ => ?_
  simp -implicitDefEqProofs (disch := first | omega | (simp only [St.set_n, St.up_n, List.length_cons, List.length_nil]; omega)) only [go_sem, Nat.reduceAdd, Nat.reduceMul, Nat.reduceSub, Int.reduceAdd, Int.reduceMul, Int.reduceSub, Int.reduceNeg, Int.reduceToNat]
  refine SemS.seqw fun _ => ?_
  simp -implicitDefEqProofs (disch := first | omega | (simp only [St.set_n, St.up_n, List.length_cons, List.length_nil]; omega)) only [go_sem, Nat.reduceAdd, Nat.reduceMul, Nat.reduceSub, Int.reduceAdd, Int.reduceMul, Int.reduceSub, Int.reduceNeg, Int.reduceToNat]
  refine callF_wf (awake06 fun k1 hk1 hw1 => ?_)
  simp -implicitDefEqProofs (disch := first | omega | (simp only [St.set_n, St.up_n, List.length_cons, List.length_nil]; omega)) only [go_sem, Nat.reduceAdd, Nat.reduceMul, Nat.reduceSub, Int.reduceAdd, Int.reduceMul, Int.reduceSub, Int.reduceNeg, Int.reduceToNat]
  refine SemS.seqw fun _ => ?_
  simp -implicitDefEqProofs (disch := first | omega | (simp only [St.set_n, St.up_n, List.length_cons, List.length_nil]; omega)) only [go_sem, Nat.reduceAdd, Nat.reduceMul, Nat.reduceSub, Int.reduceAdd, Int.reduceMul, Int.reduceSub, Int.reduceNeg, Int.reduceToNat]
  refine callF_of (great06 hv hp ?_ fun hpl h8 hs => ?_)
  · simp -implicitDefEqProofs (disch := first | omega | (simp only [St.set_n, St.up_n, List.length_cons, List.length_nil]; omega)) only [go_sem, Nat.reduceAdd, Nat.reduceMul, Nat.reduceSub, Int.reduceAdd, Int.reduceMul, Int.reduceSub, Int.reduceNeg, Int.reduceToNat]
    exact ⟨_, To.refl _ _, hK _ hk1⟩
  simp -implicitDefEqProofs (disch := first | omega | (simp only [St.set_n, St.up_n, List.length_cons, List.length_nil]; omega)) only [go_sem, Nat.reduceAdd, Nat.reduceMul, Nat.reduceSub, Int.reduceAdd, Int.reduceMul, Int.reduceSub, Int.reduceNeg, Int.reduceToNat]
  refine SemS.seqw fun _ => ?_
  simp -implicitDefEqProofs (disch := first | omega | (simp only [St.set_n, St.up_n, List.length_cons, List.length_nil]; omega)) only [go_sem, Nat.reduceAdd, Nat.reduceMul, Nat.reduceSub, Int.reduceAdd, Int.reduceMul, Int.reduceSub, Int.reduceNeg, Int.reduceToNat]
  obtain ⟨s2, hT, m1, hk2, hn2⟩ := one_fold (B := B) (σ := σ) (k := k1)
  refine SemS.from hT ?_
  refine SemS.seqw fun hws2 => ?_
  simp -implicitDefEqProofs (disch := first | omega | (simp only [St.set_n, St.up_n, List.length_cons, List.length_nil]; omega)) only [go_sem, Nat.reduceAdd, Nat.reduceMul, Nat.reduceSub, Int.reduceAdd, Int.reduceMul, Int.reduceSub, Int.reduceNeg, Int.reduceToNat]
  refine SemS.seqw fun _ => ?_
  simp -implicitDefEqProofs (disch := first | omega | (simp only [St.set_n, St.up_n, List.length_cons, List.length_nil]; omega)) only [go_sem, Nat.reduceAdd, Nat.reduceMul, Nat.reduceSub, Int.reduceAdd, Int.reduceMul, Int.reduceSub, Int.reduceNeg, Int.reduceToNat]
  refine SemS.seq (fun e s => ∃ A c vs, AlF pv (.slice a th.length cap) k1 A th.length c (tot (lenT th) th.length) e ∧ FrD s2.n th th.length vs (.slice A th.length c) s ∧ (∀ c, c < s2.n → s.m c = s2.m c) ∧ s2.n ≤ s.n) ?_ ?_
  · refine SemS.wp fun _ => ?_
    simp -implicitDefEqProofs (disch := first | omega | (simp only [St.set_n, St.up_n, List.length_cons, List.length_nil]; omega)) only [go_sem, Nat.reduceAdd, Nat.reduceMul, Nat.reduceSub, Int.reduceAdd, Int.reduceMul, Int.reduceSub, Int.reduceNeg, Int.reduceToNat]
    refine loop_rule (fun m e s => ∃ (i : Nat) (A : Option Addr) (c : Nat) (vs : List Value), m = th.length - i ∧ i ≤ th.length ∧ AlF pv (.slice a th.length cap) k1 A i c (tot (lenT th) i) e ∧ AlI i e ∧ FrD s2.n th i vs (.slice A i c) s ∧ (∀ c, c < s2.n → s.m c = s2.m c) ∧ s2.n ≤ s.n) th.length ?_ ?_
    · exact ⟨0, none, 0, [], by omega, by omega, ⟨by simp -implicitDefEqProofs (disch := first | omega | (simp only [St.set_n, St.up_n, List.length_cons, List.length_nil]; omega)) only [go_sem, Nat.reduceAdd, Nat.reduceMul, Nat.reduceSub, Int.reduceAdd, Int.reduceMul, Int.reduceSub, Int.reduceNeg, Int.reduceToNat], by simp -implicitDefEqProofs (disch := first | omega | (simp only [St.set_n, St.up_n, List.length_cons, List.length_nil]; omega)) only [go_sem, Nat.reduceAdd, Nat.reduceMul, Nat.reduceSub, Int.reduceAdd, Int.reduceMul, Int.reduceSub, Int.reduceNeg, Int.reduceToNat], by simp -implicitDefEqProofs (disch := first | omega | (simp only [St.set_n, St.up_n, List.length_cons, List.length_nil]; omega)) only [go_sem, Nat.reduceAdd, Nat.reduceMul, Nat.reduceSub, Int.reduceAdd, Int.reduceMul, Int.reduceSub, Int.reduceNeg, Int.reduceToNat], by simp -implicitDefEqProofs (disch := first | omega | (simp only [St.set_n, St.up_n, List.length_cons, List.length_nil]; omega)) only [go_sem, Nat.reduceAdd, Nat.reduceMul, Nat.reduceSub, Int.reduceAdd, Int.reduceMul, Int.reduceSub, Int.reduceNeg, Int.reduceToNat], by first | (simp -implicitDefEqProofs (disch := first | omega | (simp only [St.set_n, St.up_n, List.length_cons, List.length_nil]; omega)) only [go_sem, Nat.reduceAdd, Nat.reduceMul, Nat.reduceSub, Int.reduceAdd, Int.reduceMul, Int.reduceSub, Int.reduceNeg, Int.reduceToNat]; done) | (simp -implicitDefEqProofs (disch := first | omega | (simp only [St.set_n, St.up_n, List.length_cons, List.length_nil]; omega)) only [go_sem, Nat.reduceAdd, Nat.reduceMul, Nat.reduceSub, Int.reduceAdd, Int.reduceMul, Int.reduceSub, Int.reduceNeg, Int.reduceToNat]; rfl), by simp -implicitDefEqProofs (disch := first | omega | (simp only [St.set_n, St.up_n, List.length_cons, List.length_nil]; omega)) only [go_sem, Nat.reduceAdd, Nat.reduceMul, Nat.reduceSub, Int.reduceAdd, Int.reduceMul, Int.reduceSub, Int.reduceNeg, Int.reduceToNat]⟩, ⟨by first | (simp -implicitDefEqProofs (disch := first | omega | (simp only [St.set_n, St.up_n, List.length_cons, List.length_nil]; omega)) only [go_sem, Nat.reduceAdd, Nat.reduceMul, Nat.reduceSub, Int.reduceAdd, Int.reduceMul, Int.reduceSub, Int.reduceNeg, Int.reduceToNat]; done) | (simp -implicitDefEqProofs (disch := first | omega | (simp only [St.set_n, St.up_n, List.length_cons, List.length_nil]; omega)) only [go_sem, Nat.reduceAdd, Nat.reduceMul, Nat.reduceSub, Int.reduceAdd, Int.reduceMul, Int.reduceSub, Int.reduceNeg, Int.reduceToNat]; rfl)⟩, ⟨Own.nil, rfl, fun b hb => (by cases hb), fun t l ht _ => by omega⟩, fun c _ => rfl, Nat.le_refl _⟩
    rintro m e s hws ⟨i, A, cc, vs, hm, hi, ⟨q0, q1, q5, q6, q7, hd⟩, ⟨q8⟩, hF, hold, hn⟩
    by_cases hlt : (i : Int) < th.length
    · obtain ⟨l, hl⟩ : ∃ l, th[i]? = some l := ⟨th[i]'(by omega), List.getElem?_eq_getElem (by omega)⟩
      obtain ⟨b, o, a1, cap1, rfl, c0, hcl⟩ := hat i l hl
      have hlT := lenT_get hl
      have hl60 := hs.l i (by omega)
      have htb := tot_bd hs i hi
      have hsn := hs.n
      simp -implicitDefEqProofs (disch := first | omega | (simp only [St.set_n, St.up_n, List.length_cons, List.length_nil]; omega)) only [go_sem, Nat.reduceAdd, Nat.reduceMul, Nat.reduceSub, Int.reduceAdd, Int.reduceMul, Int.reduceSub, Int.reduceNeg, Int.reduceToNat, q0, q1, q5, q6, q7, q8, hlt]
      refine loop_rule (fun m e s' => ∃ (k : Nat) (A9 : Option Addr) (c9 : Nat), m = l.length - k ∧ k ≤ l.length ∧ AlF pv (.slice (some ⟨b, o, none⟩) th.length cap) k1 A i cc (tot (lenT th) i) e ∧ AlI i e ∧ AlJ A9 k c9 e ∧ Own s' 92 2 (flat fI (zl (l.take k))) k (.slice A9 k c9) ∧
        (∀ b, blk (.slice A9 k c9) = some b → s.n ≤ b) ∧ (∀ c, c < s.n → s'.m c = s.m c) ∧ s.n ≤ s'.n) l.length ?_ ?_
      · exact ⟨0, none, 0, by omega, by omega, ⟨by simp -implicitDefEqProofs (disch := first | omega | (simp only [St.set_n, St.up_n, List.length_cons, List.length_nil]; omega)) only [go_sem, Nat.reduceAdd, Nat.reduceMul, Nat.reduceSub, Int.reduceAdd, Int.reduceMul, Int.reduceSub, Int.reduceNeg, Int.reduceToNat, q0], by simp -implicitDefEqProofs (disch := first | omega | (simp only [St.set_n, St.up_n, List.length_cons, List.length_nil]; omega)) only [go_sem, Nat.reduceAdd, Nat.reduceMul, Nat.reduceSub, Int.reduceAdd, Int.reduceMul, Int.reduceSub, Int.reduceNeg, Int.reduceToNat, q1], by simp -implicitDefEqProofs (disch := first | omega | (simp only [St.set_n, St.up_n, List.length_cons, List.length_nil]; omega)) only [go_sem, Nat.reduceAdd, Nat.reduceMul, Nat.reduceSub, Int.reduceAdd, Int.reduceMul, Int.reduceSub, Int.reduceNeg, Int.reduceToNat, q5], by simp -implicitDefEqProofs (disch := first | omega | (simp only [St.set_n, St.up_n, List.length_cons, List.length_nil]; omega)) only [go_sem, Nat.reduceAdd, Nat.reduceMul, Nat.reduceSub, Int.reduceAdd, Int.reduceMul, Int.reduceSub, Int.reduceNeg, Int.reduceToNat, q6], by simp -implicitDefEqProofs (disch := first | omega | (simp only [St.set_n, St.up_n, List.length_cons, List.length_nil]; omega)) only [go_sem, Nat.reduceAdd, Nat.reduceMul, Nat.reduceSub, Int.reduceAdd, Int.reduceMul, Int.reduceSub, Int.reduceNeg, Int.reduceToNat, q7], by simp -implicitDefEqProofs (disch := first | omega | (simp only [St.set_n, St.up_n, List.length_cons, List.length_nil]; omega)) only [go_sem, Nat.reduceAdd, Nat.reduceMul, Nat.reduceSub, Int.reduceAdd, Int.reduceMul, Int.reduceSub, Int.reduceNeg, Int.reduceToNat, hd]⟩, ⟨by simp -implicitDefEqProofs (disch := first | omega | (simp only [St.set_n, St.up_n, List.length_cons, List.length_nil]; omega)) only [go_sem, Nat.reduceAdd, Nat.reduceMul, Nat.reduceSub, Int.reduceAdd, Int.reduceMul, Int.reduceSub, Int.reduceNeg, Int.reduceToNat, q8]⟩, ⟨by simp -implicitDefEqProofs (disch := first | omega | (simp only [St.set_n, St.up_n, List.length_cons, List.length_nil]; omega)) only [go_sem, Nat.reduceAdd, Nat.reduceMul, Nat.reduceSub, Int.reduceAdd, Int.reduceMul, Int.reduceSub, Int.reduceNeg, Int.reduceToNat], by first | (simp -implicitDefEqProofs (disch := first | omega | (simp only [St.set_n, St.up_n, List.length_cons, List.length_nil]; omega)) only [go_sem, Nat.reduceAdd, Nat.reduceMul, Nat.reduceSub, Int.reduceAdd, Int.reduceMul, Int.reduceSub, Int.reduceNeg, Int.reduceToNat]; done) | (simp -implicitDefEqProofs (disch := first | omega | (simp only [St.set_n, St.up_n, List.length_cons, List.length_nil]; omega)) only [go_sem, Nat.reduceAdd, Nat.reduceMul, Nat.reduceSub, Int.reduceAdd, Int.reduceMul, Int.reduceSub, Int.reduceNeg, Int.reduceToNat]; rfl)⟩, Own.nil, fun b hb => (by cases hb), fun c _ => rfl, Nat.le_refl _⟩
      clear q0 q1 q5 q6 q7 q8 hd
      rintro m2 e s' hws' ⟨k, A9, c9, hm2, hk, ⟨q0, q1, q5, q6, q7, hd⟩, ⟨q8⟩, ⟨q9, q10⟩, hO9, hb9, hold', hn'⟩
      obtain ⟨r0, _⟩ := c0.rd hws' fun _ _ h => h.elim
      by_cases hlt2 : (k : Int) < l.length
      · obtain ⟨x, hx⟩ : ∃ x, l[k]? = some x := ⟨l[k]'(by omega), List.getElem?_eq_getElem (by omega)⟩
        obtain ⟨b1, o1, rfl, _, c2⟩ := hcl k x hx
        obtain ⟨r2, _⟩ := c2.rd hws' fun _ _ h => h.elim
        simp -implicitDefEqProofs (disch := first | omega | (simp only [St.set_n, St.up_n, List.length_cons, List.length_nil]; omega)) only [go_sem, Nat.reduceAdd, Nat.reduceMul, Nat.reduceSub, Int.reduceAdd, Int.reduceMul, Int.reduceSub, Int.reduceNeg, Int.reduceToNat, q1, q8, q9, q10, hlt2, r0, r2]
        refine appE hws' hO9 se91 kd91 zr92 rfl (by omega) (ys := [.int .i64 0, .int .i64 x.2]) rfl rfl (by omega) fun A' C' s3 hC' o3 heq hb3 hn3 hws3 => ?_
        simp -implicitDefEqProofs (disch := first | omega | (simp only [St.set_n, St.up_n, List.length_cons, List.length_nil]; omega)) only [go_sem, Nat.reduceAdd, Nat.reduceMul, Nat.reduceSub, Int.reduceAdd, Int.reduceMul, Int.reduceSub, Int.reduceNeg, Int.reduceToNat, q10, hd]
        have hfl : flat fI (zl (l.take (k + 1))) = flat fI (zl (l.take k)) ++ [.int .i64 0, .int .i64 x.2] := by
          rw [List.take_add_one, hx]
          simp [zl, flat, fI]
        refine ⟨l.length - (k + 1), by omega, k + 1, A', C', rfl, by omega, ⟨by simp -implicitDefEqProofs (disch := first | omega | (simp only [St.set_n, St.up_n, List.length_cons, List.length_nil]; omega)) only [go_sem, Nat.reduceAdd, Nat.reduceMul, Nat.reduceSub, Int.reduceAdd, Int.reduceMul, Int.reduceSub, Int.reduceNeg, Int.reduceToNat, q0], by simp -implicitDefEqProofs (disch := first | omega | (simp only [St.set_n, St.up_n, List.length_cons, List.length_nil]; omega)) only [go_sem, Nat.reduceAdd, Nat.reduceMul, Nat.reduceSub, Int.reduceAdd, Int.reduceMul, Int.reduceSub, Int.reduceNeg, Int.reduceToNat, q1], by simp -implicitDefEqProofs (disch := first | omega | (simp only [St.set_n, St.up_n, List.length_cons, List.length_nil]; omega)) only [go_sem, Nat.reduceAdd, Nat.reduceMul, Nat.reduceSub, Int.reduceAdd, Int.reduceMul, Int.reduceSub, Int.reduceNeg, Int.reduceToNat, q5], by simp -implicitDefEqProofs (disch := first | omega | (simp only [St.set_n, St.up_n, List.length_cons, List.length_nil]; omega)) only [go_sem, Nat.reduceAdd, Nat.reduceMul, Nat.reduceSub, Int.reduceAdd, Int.reduceMul, Int.reduceSub, Int.reduceNeg, Int.reduceToNat, q6], by simp -implicitDefEqProofs (disch := first | omega | (simp only [St.set_n, St.up_n, List.length_cons, List.length_nil]; omega)) only [go_sem, Nat.reduceAdd, Nat.reduceMul, Nat.reduceSub, Int.reduceAdd, Int.reduceMul, Int.reduceSub, Int.reduceNeg, Int.reduceToNat, q7], by first | exact hd | (simp -implicitDefEqProofs (disch := first | omega | (simp only [St.set_n, St.up_n, List.length_cons, List.length_nil]; omega)) only [go_sem, Nat.reduceAdd, Nat.reduceMul, Nat.reduceSub, Int.reduceAdd, Int.reduceMul, Int.reduceSub, Int.reduceNeg, Int.reduceToNat, hd])⟩, ⟨by simp -implicitDefEqProofs (disch := first | omega | (simp only [St.set_n, St.up_n, List.length_cons, List.length_nil]; omega)) only [go_sem, Nat.reduceAdd, Nat.reduceMul, Nat.reduceSub, Int.reduceAdd, Int.reduceMul, Int.reduceSub, Int.reduceNeg, Int.reduceToNat, q8]⟩, ⟨by first | (simp -implicitDefEqProofs (disch := first | omega | (simp only [St.set_n, St.up_n, List.length_cons, List.length_nil]; omega)) only [go_sem, Nat.reduceAdd, Nat.reduceMul, Nat.reduceSub, Int.reduceAdd, Int.reduceMul, Int.reduceSub, Int.reduceNeg, Int.reduceToNat]; done) | (simp -implicitDefEqProofs (disch := first | omega | (simp only [St.set_n, St.up_n, List.length_cons, List.length_nil]; omega)) only [go_sem, Nat.reduceAdd, Nat.reduceMul, Nat.reduceSub, Int.reduceAdd, Int.reduceMul, Int.reduceSub, Int.reduceNeg, Int.reduceToNat]; rfl), by first | (simp -implicitDefEqProofs (disch := first | omega | (simp only [St.set_n, St.up_n, List.length_cons, List.length_nil]; omega)) only [go_sem, Nat.reduceAdd, Nat.reduceMul, Nat.reduceSub, Int.reduceAdd, Int.reduceMul, Int.reduceSub, Int.reduceNeg, Int.reduceToNat]; done) | (simp -implicitDefEqProofs (disch := first | omega | (simp only [St.set_n, St.up_n, List.length_cons, List.length_nil]; omega)) only [go_sem, Nat.reduceAdd, Nat.reduceMul, Nat.reduceSub, Int.reduceAdd, Int.reduceMul, Int.reduceSub, Int.reduceNeg, Int.reduceToNat]; rfl)⟩, hfl ▸ o3, fun b hb => ?_, fun c hc => ?_, by omega⟩
        · rcases hb3 b hb with h | h
          · omega
          · exact hb9 b h
        · exact (heq c (by omega) fun e => by have := hb9 c e; omega).trans (hold' c hc)
      · have hkl : k = l.length := by omega
        subst hkl
        rw [List.take_length] at hO9
        simp -implicitDefEqProofs (disch := first | omega | (simp only [St.set_n, St.up_n, List.length_cons, List.length_nil]; omega)) only [go_sem, Nat.reduceAdd, Nat.reduceMul, Nat.reduceSub, Int.reduceAdd, Int.reduceMul, Int.reduceSub, Int.reduceNeg, Int.reduceToNat, q1, q6, q7, q8, q9, q10, hlt2, r0]
        have hO1 : Own s' 91 1 vs i (.slice A i cc) := hF.own.keepT fun b c hb => (hold' b (hws.2 _ _ hb).2).trans hb
        refine appE hws' hO1 se77 kd77 zr91 rfl (by omega) (ys := [.slice A9 l.length c9]) rfl rfl (by omega) fun A' C' s4 hC' o4 heq hb4 hn4 hws4 => ?_
        have hk4 : ∀ c y, s'.m c = some y → (∀ v, y ≠ .raw (.cells v 91 (0, 0))) → s4.m c = some y := fun c y hx hy => (heq c (hws'.2 _ _ hx).2 (hO1.ne hx hy)).trans hx
        have hvl := hF.len
        simp -implicitDefEqProofs (disch := first | omega | (simp only [St.set_n, St.up_n, List.length_cons, List.length_nil]; omega)) only [go_sem, Nat.reduceAdd, Nat.reduceMul, Nat.reduceSub, Int.reduceAdd, Int.reduceMul, Int.reduceSub, Int.reduceNeg, Int.reduceToNat, q8, hd]
        refine ⟨th.length - (i + 1), by omega, i + 1, A', C', vs ++ [.slice A9 l.length c9], rfl, by omega, ⟨by simp -implicitDefEqProofs (disch := first | omega | (simp only [St.set_n, St.up_n, List.length_cons, List.length_nil]; omega)) only [go_sem, Nat.reduceAdd, Nat.reduceMul, Nat.reduceSub, Int.reduceAdd, Int.reduceMul, Int.reduceSub, Int.reduceNeg, Int.reduceToNat, q0], by simp -implicitDefEqProofs (disch := first | omega | (simp only [St.set_n, St.up_n, List.length_cons, List.length_nil]; omega)) only [go_sem, Nat.reduceAdd, Nat.reduceMul, Nat.reduceSub, Int.reduceAdd, Int.reduceMul, Int.reduceSub, Int.reduceNeg, Int.reduceToNat, q1], by simp -implicitDefEqProofs (disch := first | omega | (simp only [St.set_n, St.up_n, List.length_cons, List.length_nil]; omega)) only [go_sem, Nat.reduceAdd, Nat.reduceMul, Nat.reduceSub, Int.reduceAdd, Int.reduceMul, Int.reduceSub, Int.reduceNeg, Int.reduceToNat, q5], by first | (simp -implicitDefEqProofs (disch := first | omega | (simp only [St.set_n, St.up_n, List.length_cons, List.length_nil]; omega)) only [go_sem, Nat.reduceAdd, Nat.reduceMul, Nat.reduceSub, Int.reduceAdd, Int.reduceMul, Int.reduceSub, Int.reduceNeg, Int.reduceToNat]; done) | (simp -implicitDefEqProofs (disch := first | omega | (simp only [St.set_n, St.up_n, List.length_cons, List.length_nil]; omega)) only [go_sem, Nat.reduceAdd, Nat.reduceMul, Nat.reduceSub, Int.reduceAdd, Int.reduceMul, Int.reduceSub, Int.reduceNeg, Int.reduceToNat]; rfl), ?_, by first | exact hd | (simp -implicitDefEqProofs (disch := first | omega | (simp only [St.set_n, St.up_n, List.length_cons, List.length_nil]; omega)) only [go_sem, Nat.reduceAdd, Nat.reduceMul, Nat.reduceSub, Int.reduceAdd, Int.reduceMul, Int.reduceSub, Int.reduceNeg, Int.reduceToNat, hd])⟩, ⟨by first | (simp -implicitDefEqProofs (disch := first | omega | (simp only [St.set_n, St.up_n, List.length_cons, List.length_nil]; omega)) only [go_sem, Nat.reduceAdd, Nat.reduceMul, Nat.reduceSub, Int.reduceAdd, Int.reduceMul, Int.reduceSub, Int.reduceNeg, Int.reduceToNat]; done) | (simp -implicitDefEqProofs (disch := first | omega | (simp only [St.set_n, St.up_n, List.length_cons, List.length_nil]; omega)) only [go_sem, Nat.reduceAdd, Nat.reduceMul, Nat.reduceSub, Int.reduceAdd, Int.reduceMul, Int.reduceSub, Int.reduceNeg, Int.reduceToNat]; rfl)⟩, ⟨o4, by simp [hvl], fun b hb => ?_, fun t l' ht hl' => ?_⟩, fun c hc => ?_, by omega⟩
        · rw [tot, hlT]
          simp -implicitDefEqProofs (disch := first | omega | (simp only [St.set_n, St.up_n, List.length_cons, List.length_nil]; omega)) only [go_sem, Nat.reduceAdd, Nat.reduceMul, Nat.reduceSub, Int.reduceAdd, Int.reduceMul, Int.reduceSub, Int.reduceNeg, Int.reduceToNat]
          rfl
        · rcases hb4 b hb with h | h
          · omega
          · exact hF.nb b h
        · by_cases e : t = i
          · subst e
            rw [hl] at hl'
            cases hl'
            refine ⟨.slice A9 l.length c9, ?_, hO9.keepT fun b c hb => hk4 b _ hb (by simp), fun b hb => by have := hb9 b hb; omega⟩
            rw [List.getElem?_append_right (by omega), hvl, Nat.sub_self]
            rfl
          · obtain ⟨u, hu, hou, hub⟩ := hF.el t l' (by omega) hl'
            refine ⟨u, ?_, hou.keepT fun b c hb => hk4 b _ ((hold' b (hws.2 _ _ hb).2).trans hb) (by simp), hub⟩
            rw [List.getElem?_append_left (by omega)]
            exact hu
        · exact (heq c (by omega) fun e => by have := hF.nb c e; omega).trans ((hold' c (by omega)).trans (hold c hc))
    · have hie : i = th.length := by omega
      subst hie
      simp -implicitDefEqProofs (disch := first | omega | (simp only [St.set_n, St.up_n, List.length_cons, List.length_nil]; omega)) only [go_sem, Nat.reduceAdd, Nat.reduceMul, Nat.reduceSub, Int.reduceAdd, Int.reduceMul, Int.reduceSub, Int.reduceNeg, Int.reduceToNat, q1, q8, hlt]
      exact ⟨_, To.refl _ _, A, cc, vs, ⟨by simp -implicitDefEqProofs (disch := first | omega | (simp only [St.set_n, St.up_n, List.length_cons, List.length_nil]; omega)) only [go_sem, Nat.reduceAdd, Nat.reduceMul, Nat.reduceSub, Int.reduceAdd, Int.reduceMul, Int.reduceSub, Int.reduceNeg, Int.reduceToNat, q0], by simp -implicitDefEqProofs (disch := first | omega | (simp only [St.set_n, St.up_n, List.length_cons, List.length_nil]; omega)) only [go_sem, Nat.reduceAdd, Nat.reduceMul, Nat.reduceSub, Int.reduceAdd, Int.reduceMul, Int.reduceSub, Int.reduceNeg, Int.reduceToNat, q1], by simp -implicitDefEqProofs (disch := first | omega | (simp only [St.set_n, St.up_n, List.length_cons, List.length_nil]; omega)) only [go_sem, Nat.reduceAdd, Nat.reduceMul, Nat.reduceSub, Int.reduceAdd, Int.reduceMul, Int.reduceSub, Int.reduceNeg, Int.reduceToNat, q5], by simp -implicitDefEqProofs (disch := first | omega | (simp only [St.set_n, St.up_n, List.length_cons, List.length_nil]; omega)) only [go_sem, Nat.reduceAdd, Nat.reduceMul, Nat.reduceSub, Int.reduceAdd, Int.reduceMul, Int.reduceSub, Int.reduceNeg, Int.reduceToNat, q6], by simp -implicitDefEqProofs (disch := first | omega | (simp only [St.set_n, St.up_n, List.length_cons, List.length_nil]; omega)) only [go_sem, Nat.reduceAdd, Nat.reduceMul, Nat.reduceSub, Int.reduceAdd, Int.reduceMul, Int.reduceSub, Int.reduceNeg, Int.reduceToNat, q7], by simp -implicitDefEqProofs (disch := first | omega | (simp only [St.set_n, St.up_n, List.length_cons, List.length_nil]; omega)) only [go_sem, Nat.reduceAdd, Nat.reduceMul, Nat.reduceSub, Int.reduceAdd, Int.reduceMul, Int.reduceSub, Int.reduceNeg, Int.reduceToNat, hd]⟩, hF, hold, hn⟩
  rintro e s3 hws3 ⟨A, c, vs0, ⟨q0, q1, q5, q6, q7, hd⟩, hF, hold, hn⟩
  have hsz : Sm (zth th) := ⟨by rw [zth_len]; exact hs.n, fun t ht => by rw [lenT_zth]; rw [zth_len] at ht; exact hs.l t ht⟩
  have hRd : RdV (FB s2.n s3) B (zth th) (.slice A th.length c) := hF.rdv
  refine SemS.seqw fun _ => ?_
  simp -implicitDefEqProofs (disch := first | omega | (simp only [St.set_n, St.up_n, List.length_cons, List.length_nil]; omega)) only [go_sem, Nat.reduceAdd, Nat.reduceMul, Nat.reduceSub, Int.reduceAdd, Int.reduceMul, Int.reduceSub, Int.reduceNeg, Int.reduceToNat, q0, q5, q6]
  refine callF_wf (chains06 hRd (fun c y h => h.1) hsz fun v s4 hC hk4 hn4 hws4 => ?_)
  obtain ⟨x3, x2, fs, vs, tv', ho, hvl, hD, htv, h3, h2, h3n, h2n, hvn⟩ := hC.ex
  rw [zth_len] at hvl
  have hlt3 : ∀ c y, s3.m c = some y → c < s3.n := fun c y hx => (hws3.2 _ _ hx).2
  simp -implicitDefEqProofs (disch := first | omega | (simp only [St.set_n, St.up_n, List.length_cons, List.length_nil]; omega)) only [go_sem, Nat.reduceAdd, Nat.reduceMul, Nat.reduceSub, Int.reduceAdd, Int.reduceMul, Int.reduceSub, Int.reduceNeg, Int.reduceToNat]
  refine bslK_ones (vs := [.nilFunc, .nilFunc]) se115 zr23 rfl (by simp [Value.cells]) rfl rfl (by omega) ?_
  simp -implicitDefEqProofs (disch := first | omega | (simp only [St.set_n, St.up_n, List.length_cons, List.length_nil]; omega)) only [go_sem, Nat.reduceAdd, Nat.reduceMul, Nat.reduceSub, Int.reduceAdd, Int.reduceMul, Int.reduceSub, Int.reduceNeg, Int.reduceToNat]
  have hn5' : ((s4.set s4.n (.raw (.cells #[.nilFunc, .nilFunc] 23 (0, 0)))).up (s4.n + 1)).n = s4.n + 1 := rfl
  have m5 : ((s4.set s4.n (.raw (.cells #[.nilFunc, .nilFunc] 23 (0, 0)))).up (s4.n + 1)).m s4.n = some (.raw (.cells [.nilFunc, .nilFunc].toArray 23 (0, 0))) := by simp -implicitDefEqProofs (disch := first | omega | (simp only [St.set_n, St.up_n, List.length_cons, List.length_nil]; omega)) only [go_sem, Nat.reduceAdd, Nat.reduceMul, Nat.reduceSub, Int.reduceAdd, Int.reduceMul, Int.reduceSub, Int.reduceNeg, Int.reduceToNat]
  have hk5' : ∀ c y, s4.m c = some y → ((s4.set s4.n (.raw (.cells #[.nilFunc, .nilFunc] 23 (0, 0)))).up (s4.n + 1)).m c = some y := fun c y hx => by
    have := (hws4.2 _ _ hx).2
    simp -implicitDefEqProofs (disch := first | omega | (simp only [St.set_n, St.up_n, List.length_cons, List.length_nil]; omega)) only [go_sem, Nat.reduceAdd, Nat.reduceMul, Nat.reduceSub, Int.reduceAdd, Int.reduceMul, Int.reduceSub, Int.reduceNeg, Int.reduceToNat, hx]
  generalize (s4.set s4.n (.raw (.cells #[.nilFunc, .nilFunc] 23 (0, 0)))).up (s4.n + 1) = s5 at hn5' m5 hk5' ⊢
  refine callF_wf (chain_nils ⟨_, _, rfl⟩ (fun s hs => fc_block (by rw [hs _ (by omega)]; exact m5) rfl) fun s6 hk6 hn6 hws6 => ?_)
  simp -implicitDefEqProofs (disch := first | omega | (simp only [St.set_n, St.up_n, List.length_cons, List.length_nil]; omega)) only [go_sem, Nat.reduceAdd, Nat.reduceMul, Nat.reduceSub, Int.reduceAdd, Int.reduceMul, Int.reduceSub, Int.reduceNeg, Int.reduceToNat]
  refine bslK_ones (vs := [.nilFunc, .nilFunc]) se86 zr94 rfl (by simp [Value.cells]) rfl rfl (by omega) ?_
  have hk64 : ∀ c y, s4.m c = some y → s6.m c = some y := fun c y hx => (hk6 c (by have := (hws4.2 _ _ hx).2; omega)).trans (hk5' c y hx)
  have ho6 := ho.keepR fun b o _ ho' => hk64 b _ ho'
  have hk76 : ∀ c y, s6.m c = some y → ((s6.set s6.n (.raw (.cells #[.nilFunc, .nilFunc] 94 (0, 0)))).up (s6.n + 1)).m c = some y := fun c y hx => by
    have := (hws6.2 _ _ hx).2
    simp -implicitDefEqProofs (disch := first | omega | (simp only [St.set_n, St.up_n, List.length_cons, List.length_nil]; omega)) only [go_sem, Nat.reduceAdd, Nat.reduceMul, Nat.reduceSub, Int.reduceAdd, Int.reduceMul, Int.reduceSub, Int.reduceNeg, Int.reduceToNat, hx]
  obtain ⟨Av, cv, rfl, _⟩ := ho6.is
  simp -implicitDefEqProofs (disch := first | omega | (simp only [St.set_n, St.up_n, List.length_cons, List.length_nil]; omega)) only [go_sem, Nat.reduceAdd, Nat.reduceMul, Nat.reduceSub, Int.reduceAdd, Int.reduceMul, Int.reduceSub, Int.reduceNeg, Int.reduceToNat]
  have hn7 : ((s6.set s6.n (.raw (.cells #[.nilFunc, .nilFunc] 94 (0, 0)))).up (s6.n + 1)).n = s6.n + 1 := rfl
  have m7 : ((s6.set s6.n (.raw (.cells #[.nilFunc, .nilFunc] 94 (0, 0)))).up (s6.n + 1)).m s6.n = some (.raw (.cells [.nilFunc, .nilFunc].toArray 94 (0, 0))) := by simp -implicitDefEqProofs (disch := first | omega | (simp only [St.set_n, St.up_n, List.length_cons, List.length_nil]; omega)) only [go_sem, Nat.reduceAdd, Nat.reduceMul, Nat.reduceSub, Int.reduceAdd, Int.reduceMul, Int.reduceSub, Int.reduceNeg, Int.reduceToNat]
  generalize (s6.set s6.n (.raw (.cells #[.nilFunc, .nilFunc] 94 (0, 0)))).up (s6.n + 1) = s7 at hn7 m7 hk76 ⊢
  have hsn := hs.n
  have ho7 := ho6.keepR fun b o _ ho' => hk76 b _ ho'
  refine app_own2 se86 (.inr kd86) zr94 rfl (by omega) ho7 (fc_block m7 rfl) rfl rfl (by omega) fun v8 s8 o8 hb8 hk8 hn8 => ?_
  have hk48 : ∀ c y, s4.m c = some y → (∀ v cs, y ≠ .raw (.cells v 94 cs)) → s8.m c = some y := fun c y hx hy => by
    have hcn := (hws4.2 _ _ hx).2
    refine (hk8 c fun e => ?_).trans (hk76 c y (hk64 c y hx))
    rcases hb8 c e with ⟨h, _⟩ | h
    · omega
    · exact ho.ne hx (fun v => hy v _) h
  have hb8n : ∀ b, blk v8 = some b → b < s8.n := fun b hb => by
    rcases hb8 b hb with ⟨h, h'⟩ | h
    · omega
    · obtain ⟨o, ho'⟩ := ho.at_ h
      have := (hws4.2 _ _ ho').2
      omega
  obtain ⟨G, hG⟩ : ∃ G : Nat → Prop, G = fun c => c < σ.n := ⟨_, rfl⟩
  have hGi : ∀ c, G c ↔ c < σ.n := fun c => by rw [hG]
  have hBv : ∀ c y, FB s2.n s3 c y → BxOf G s8 c y := fun c y ⟨h1, h2, v, ty, h3, h4⟩ => by
    subst h3
    refine ⟨hk48 c _ ((hk4 c (hlt3 c _ h1)).trans h1) (fun v' cs e => ?_), fun hg => by have := (hGi c).1 hg; omega, v, ty, rfl, ?_, ?_⟩
    · simp only [HP.raw.injEq, Obj.cells.injEq] at e
      obtain ⟨_, rfl, _⟩ := e
      rcases h4 with h | h <;> cases h
    · rcases h4 with h | h <;> rw [h] <;> decide
    · rcases h4 with h | h <;> rw [h] <;> decide
  have hq8 : s8.m k1 = some (.comp (WoR w0 k1)) := hk48 k1 _ ((hk4 k1 (by omega)).trans ((hold k1 (by omega)).trans m1)) fun v cs e => by cases e
  obtain ⟨fs', hc, hI⟩ := chr_sys' (th' := th2 th) (vs' := vs ++ [.nilFunc, .nilFunc]) (hD.keep hk48) htv hBv (hk48 _ _ h3 fun v cs e => by simp at e) (hk48 _ _ h2 fun v cs e => by simp at e) h3n h2n (th2_sm hs h8) hq8 rfl (by omega) (fun c hg => by have := (hGi c).1 hg; omega) (by omega)
    (by rw [zth_len, th2_len]; omega) (fun t ht => by rw [zth_len] at ht; exact th2_get ht) (fun t ht => by rw [zth_len] at ht; rw [lenT_th2]; exact lenT_over ht) (by rw [th2_len, List.length_append, hvl]; rfl)
    (fun t ht => by rw [zth_len] at ht; rw [List.getElem?_append_left (by omega)]) (fun t v ht hv => by
      rw [zth_len] at ht
      rw [List.getElem?_append_right (by omega)] at hv
      have hm := List.mem_of_getElem? hv
      simpa using hm)
  obtain ⟨A8, c8, rfl, _⟩ := o8.is
  simp -implicitDefEqProofs (disch := first | omega | (simp only [St.set_n, St.up_n, List.length_cons, List.length_nil]; omega)) only [go_sem, Nat.reduceAdd, Nat.reduceMul, Nat.reduceSub, Int.reduceAdd, Int.reduceMul, Int.reduceSub, Int.reduceNeg, Int.reduceToNat]
  refine callF_wf (m_run hI (show (th2 th).length ≤ 1000 by rw [th2_len]; omega) (by omega) ⟨⟨A8, c8, by simp⟩, by simpa using o8.fc⟩ (fun s hs' => by
    have := (o8.keepR (σ' := s) fun b o hb ho' => (hs' b (hb8n b hb)).trans ho').fc (B := B)
    simpa using this) hp (R := Sys.loopA 70000 (Sys.picksA (ma0 hc (th2_sm hs h8)) picks)) rfl fun mv vs' s9 om hI9 hn9 hk9 hws9 => ?_)
  obtain ⟨R, hR⟩ : ∃ R, R = loopP (th2 th) 70000 (picksP (th2 th) ⟨w0, fun _ => 0, [], 0⟩ picks) := ⟨_, rfl⟩
  obtain ⟨ra, rb, rc, rd⟩ := run_all (th2_zk th) (th2_sm hs h8) w0 rfl picks
  rw [← hR] at ra rb rc rd
  have hG0 : GoodP (th2 th) ⟨w0, fun _ => 0, [], 0⟩ := ⟨hI.ok, by
    show 0 = tot (fun _ => 0) (th2 th).length
    induction (th2 th).length with
    | zero => rfl
    | succ n ih => rw [tot, ← ih]⟩
  have e1 : cvP (Sys.picksA (ma0 hc (th2_sm hs h8)) picks) = picksP (th2 th) ⟨w0, fun _ => 0, [], 0⟩ picks := cv_picks picks (ma0 hc (th2_sm hs h8)) hG0
  obtain ⟨e2, e3⟩ := cv_loop 70000 (Sys.picksA (ma0 hc (th2_sm hs h8)) picks) (by rw [e1]; exact hG0.picks picks)
  rw [e1, ← hR] at e2 e3
  rw [e3, ra]
  generalize (Sys.loopA 70000 (Sys.picksA (ma0 hc (th2_sm hs h8)) picks)).1 = M at om hI9 e2 ⊢
  have f1 : M.mv = R.1.mv := congrArg RS.mv e2
  have f2 : M.ca = R.1.ca := congrArg RS.ca e2
  rw [f1] at om
  rw [f2, rb.ca]
  obtain ⟨bs, _, hWI, _⟩ := hI9.ch
  have hbx9 : ∀ c y, BxOf G s8 c y → s9.m c = some y := hWI.bx
  have ho9 : ∀ c y, c < σ.n → σ.m c = some y → s9.m c = some y := fun c y hcn hx => hk9 c y ((hGi c).2 hcn) (by
    have h1 : s3.m c = some y := (hold c (by omega)).trans ((hk2 c (by omega)).trans hx)
    have h2 : s4.m c = some y := (hk4 c (hlt3 c y h1)).trans h1
    refine (hk8 c fun e => ?_).trans (hk76 c y (hk64 c y h2))
    have := (hws4.2 _ _ h2).2
    rcases hb8 c e with ⟨h, _⟩ | h
    · omega
    · have := hvn c h; omega)
  rw [th2_tot] at rd
  have hN := tot_bd hs th.length (Nat.le_refl _)
  obtain ⟨mvl, hmvl⟩ : ∃ mvl, mvl = R.1.mv := ⟨_, rfl⟩
  rw [← hmvl] at om rd ⊢
  rw [rd] at om ⊢
  obtain ⟨N, hNe⟩ : ∃ N, N = tot (lenT th) th.length := ⟨_, rfl⟩
  rw [← hNe] at om rd q7 hN ⊢
  obtain ⟨Am, cm, rfl, _⟩ := om.is
  simp -implicitDefEqProofs (disch := first | omega | (simp only [St.set_n, St.up_n, List.length_cons, List.length_nil]; omega)) only [go_sem, Nat.reduceAdd, Nat.reduceMul, Nat.reduceSub, Int.reduceAdd, Int.reduceMul, Int.reduceSub, Int.reduceNeg, Int.reduceToNat]
  have hx10 : ((s9.set s9.n (.raw (.cells #[.slice Am N cm, .int .i64 N, .int .i64 0] 84 (0, 0)))).up (s9.n + 1)).m s9.n = some (.raw (.cells #[.slice Am N cm, .int .i64 N, .int .i64 0] 84 (0, 0))) := by simp -implicitDefEqProofs (disch := first | omega | (simp only [St.set_n, St.up_n, List.length_cons, List.length_nil]; omega)) only [go_sem, Nat.reduceAdd, Nat.reduceMul, Nat.reduceSub, Int.reduceAdd, Int.reduceMul, Int.reduceSub, Int.reduceNeg, Int.reduceToNat]
  have hk10 : ∀ c y, s9.m c = some y → ((s9.set s9.n (.raw (.cells #[.slice Am N cm, .int .i64 N, .int .i64 0] 84 (0, 0)))).up (s9.n + 1)).m c = some y := fun c y hx => by
    have := (hws9.2 _ _ hx).2
    simp -implicitDefEqProofs (disch := first | omega | (simp only [St.set_n, St.up_n, List.length_cons, List.length_nil]; omega)) only [go_sem, Nat.reduceAdd, Nat.reduceMul, Nat.reduceSub, Int.reduceAdd, Int.reduceMul, Int.reduceSub, Int.reduceNeg, Int.reduceToNat, hx]
  have hn10 : ((s9.set s9.n (.raw (.cells #[.slice Am N cm, .int .i64 N, .int .i64 0] 84 (0, 0)))).up (s9.n + 1)).n = s9.n + 1 := rfl
  generalize (s9.set s9.n (.raw (.cells #[.slice Am N cm, .int .i64 N, .int .i64 0] 84 (0, 0)))).up (s9.n + 1) = s10 at hx10 hk10 hn10 ⊢
  obtain ⟨x11, hx11e⟩ : ∃ x11, x11 = s9.n := ⟨_, rfl⟩
  rw [← hx11e] at hx10 hn10 ⊢
  have om10 := om.keepR fun b o _ ho' => hk10 b _ ho'
  have hRf : RdV (BxOf G s8) B (zth th) (.slice A th.length c) := hRd.mono hBv
  refine SemS.seqw fun hws10 => ?_
  simp -implicitDefEqProofs (disch := first | omega | (simp only [St.set_n, St.up_n, List.length_cons, List.length_nil]; omega)) only [go_sem, Nat.reduceAdd, Nat.reduceMul, Nat.reduceSub, Int.reduceAdd, Int.reduceMul, Int.reduceSub, Int.reduceNeg, Int.reduceToNat, q7, hx10]
  refine SemS.seqw fun _ => ?_
  simp -implicitDefEqProofs (disch := first | omega | (simp only [St.set_n, St.up_n, List.length_cons, List.length_nil]; omega)) only [go_sem, Nat.reduceAdd, Nat.reduceMul, Nat.reduceSub, Int.reduceAdd, Int.reduceMul, Int.reduceSub, Int.reduceNeg, Int.reduceToNat, q6]
  have hz : zc (.int .i64 0) th.length = (pxs (cn mvl 0) th.length).toArray := by
    have : cn mvl 0 = fun _ => 0 := funext fun u => by simp [cn]
    rw [zc_one rfl, this, pxs_zero]; simp
  rw [hz]
  refine SemS.wp fun _ => ?_
  simp -implicitDefEqProofs (disch := first | omega | (simp only [St.set_n, St.up_n, List.length_cons, List.length_nil]; omega)) only [go_sem, Nat.reduceAdd, Nat.reduceMul, Nat.reduceSub, Int.reduceAdd, Int.reduceMul, Int.reduceSub, Int.reduceNeg, Int.reduceToNat]
  have hx10n := (hws10.2 _ _ hx10).2
  refine loop_rule (fun m e s => ∃ i : Nat, m = N - i ∧ i ≤ N ∧ AlK A th.length c x11 s10.n e ∧ AlL i e ∧ CnS (s10.set s10.n (.raw (.cells (pxs (cn mvl i) th.length).toArray 3 (0, 0)))) (s10.n + 1) s) N ?_ ?_
  · exact ⟨0, by omega, by omega, ⟨by simp -implicitDefEqProofs (disch := first | omega | (simp only [St.set_n, St.up_n, List.length_cons, List.length_nil]; omega)) only [go_sem, Nat.reduceAdd, Nat.reduceMul, Nat.reduceSub, Int.reduceAdd, Int.reduceMul, Int.reduceSub, Int.reduceNeg, Int.reduceToNat, q6], by simp -implicitDefEqProofs (disch := first | omega | (simp only [St.set_n, St.up_n, List.length_cons, List.length_nil]; omega)) only [go_sem, Nat.reduceAdd, Nat.reduceMul, Nat.reduceSub, Int.reduceAdd, Int.reduceMul, Int.reduceSub, Int.reduceNeg, Int.reduceToNat], by first | (simp -implicitDefEqProofs (disch := first | omega | (simp only [St.set_n, St.up_n, List.length_cons, List.length_nil]; omega)) only [go_sem, Nat.reduceAdd, Nat.reduceMul, Nat.reduceSub, Int.reduceAdd, Int.reduceMul, Int.reduceSub, Int.reduceNeg, Int.reduceToNat]; done) | (simp -implicitDefEqProofs (disch := first | omega | (simp only [St.set_n, St.up_n, List.length_cons, List.length_nil]; omega)) only [go_sem, Nat.reduceAdd, Nat.reduceMul, Nat.reduceSub, Int.reduceAdd, Int.reduceMul, Int.reduceSub, Int.reduceNeg, Int.reduceToNat]; rfl), by simp -implicitDefEqProofs (disch := first | omega | (simp only [St.set_n, St.up_n, List.length_cons, List.length_nil]; omega)) only [go_sem, Nat.reduceAdd, Nat.reduceMul, Nat.reduceSub, Int.reduceAdd, Int.reduceMul, Int.reduceSub, Int.reduceNeg, Int.reduceToNat, hd]⟩, ⟨by first | (simp -implicitDefEqProofs (disch := first | omega | (simp only [St.set_n, St.up_n, List.length_cons, List.length_nil]; omega)) only [go_sem, Nat.reduceAdd, Nat.reduceMul, Nat.reduceSub, Int.reduceAdd, Int.reduceMul, Int.reduceSub, Int.reduceNeg, Int.reduceToNat]; done) | (simp -implicitDefEqProofs (disch := first | omega | (simp only [St.set_n, St.up_n, List.length_cons, List.length_nil]; omega)) only [go_sem, Nat.reduceAdd, Nat.reduceMul, Nat.reduceSub, Int.reduceAdd, Int.reduceMul, Int.reduceSub, Int.reduceNeg, Int.reduceToNat]; rfl)⟩, ⟨rfl⟩⟩
  clear q0 q1 q5 q6 q7 hd
  rintro m e s hws ⟨i, hm, hi, ⟨q6, q11, q12, hd⟩, ⟨q13⟩, ⟨hse⟩⟩
  subst hse
  by_cases hlt : (i : Int) < N
  · obtain ⟨x, hx⟩ : ∃ x, mvl[i]? = some x := ⟨mvl[i]'(by omega), List.getElem?_eq_getElem (by omega)⟩
    obtain ⟨bm, cm', spm, em, _, mm, _, _⟩ := om10.has (by omega)
    cases em
    have gm := ints_get hx spm
    obtain ⟨g1, g2, g3⟩ := rb.rg x (hmvl ▸ List.mem_of_getElem? hx)
    obtain ⟨t, rfl⟩ : ∃ t : Nat, x = t := ⟨x.toNat, by omega⟩
    rw [Int.toNat_natCast, lenT_th2] at g3
    have htn : t < th.length := by
      by_cases h : t < th.length
      · exact h
      · exact absurd (lenT_over (th := th) (by omega)) g3
    have hbm := (hws10.2 _ _ mm).2
    have gp := pxs_get' (px := cn mvl i) htn
    have gs := pxs_set' (px := cn mvl i) htn
    rw [← cn_succ hx] at gs
    have hcn : cn mvl i t ≤ 600 := by
      have := cn_le mvl i t
      omega
    have pl := pxs_len (cn mvl i) th.length
    have t0 : ¬ (t : Int) < 0 := by omega
    have t1 : ¬ (th.length : Int) ≤ t := by omega
    simp -implicitDefEqProofs (disch := first | omega | (simp only [St.set_n, St.up_n, List.length_cons, List.length_nil]; omega)) only [go_sem, Nat.reduceAdd, Nat.reduceMul, Nat.reduceSub, Int.reduceAdd, Int.reduceMul, Int.reduceSub, Int.reduceNeg, Int.reduceToNat, q6, q11, q12, q13, hlt, hx10, mm, gm, gp, gs, t0, t1, htn, pl]
    exact ⟨_, by omega, i + 1, rfl, by omega, ⟨by simp -implicitDefEqProofs (disch := first | omega | (simp only [St.set_n, St.up_n, List.length_cons, List.length_nil]; omega)) only [go_sem, Nat.reduceAdd, Nat.reduceMul, Nat.reduceSub, Int.reduceAdd, Int.reduceMul, Int.reduceSub, Int.reduceNeg, Int.reduceToNat, q6], by simp -implicitDefEqProofs (disch := first | omega | (simp only [St.set_n, St.up_n, List.length_cons, List.length_nil]; omega)) only [go_sem, Nat.reduceAdd, Nat.reduceMul, Nat.reduceSub, Int.reduceAdd, Int.reduceMul, Int.reduceSub, Int.reduceNeg, Int.reduceToNat, q11], by simp -implicitDefEqProofs (disch := first | omega | (simp only [St.set_n, St.up_n, List.length_cons, List.length_nil]; omega)) only [go_sem, Nat.reduceAdd, Nat.reduceMul, Nat.reduceSub, Int.reduceAdd, Int.reduceMul, Int.reduceSub, Int.reduceNeg, Int.reduceToNat, q12], by simp -implicitDefEqProofs (disch := first | omega | (simp only [St.set_n, St.up_n, List.length_cons, List.length_nil]; omega)) only [go_sem, Nat.reduceAdd, Nat.reduceMul, Nat.reduceSub, Int.reduceAdd, Int.reduceMul, Int.reduceSub, Int.reduceNeg, Int.reduceToNat, hd]⟩, ⟨by simp -implicitDefEqProofs (disch := first | omega | (simp only [St.set_n, St.up_n, List.length_cons, List.length_nil]; omega)) only [go_sem, Nat.reduceAdd, Nat.reduceMul, Nat.reduceSub, Int.reduceAdd, Int.reduceMul, Int.reduceSub, Int.reduceNeg, Int.reduceToNat]; rfl⟩, ⟨by simp -implicitDefEqProofs (disch := first | omega | (simp only [St.set_n, St.up_n, List.length_cons, List.length_nil]; omega)) only [go_sem, Nat.reduceAdd, Nat.reduceMul, Nat.reduceSub, Int.reduceAdd, Int.reduceMul, Int.reduceSub, Int.reduceNeg, Int.reduceToNat]⟩⟩
  · have hie : N = i := by omega
    subst hie
    simp -implicitDefEqProofs (disch := first | omega | (simp only [St.set_n, St.up_n, List.length_cons, List.length_nil]; omega)) only [go_sem, Nat.reduceAdd, Nat.reduceMul, Nat.reduceSub, Int.reduceAdd, Int.reduceMul, Int.reduceSub, Int.reduceNeg, Int.reduceToNat, q11, q13, hlt, hx10]
    refine loop_rule (fun m e s => ∃ i : Nat, m = th.length - i ∧ i ≤ th.length ∧ AlK A th.length c x11 s10.n e ∧ AlM i e ∧ CnS (s10.set s10.n (.raw (.cells (pxs (cn mvl N) th.length).toArray 3 (0, 0)))) (s10.n + 1) s) th.length ?_ ?_
    · exact ⟨0, by omega, by omega, ⟨by simp -implicitDefEqProofs (disch := first | omega | (simp only [St.set_n, St.up_n, List.length_cons, List.length_nil]; omega)) only [go_sem, Nat.reduceAdd, Nat.reduceMul, Nat.reduceSub, Int.reduceAdd, Int.reduceMul, Int.reduceSub, Int.reduceNeg, Int.reduceToNat, q6], by simp -implicitDefEqProofs (disch := first | omega | (simp only [St.set_n, St.up_n, List.length_cons, List.length_nil]; omega)) only [go_sem, Nat.reduceAdd, Nat.reduceMul, Nat.reduceSub, Int.reduceAdd, Int.reduceMul, Int.reduceSub, Int.reduceNeg, Int.reduceToNat, q11], by simp -implicitDefEqProofs (disch := first | omega | (simp only [St.set_n, St.up_n, List.length_cons, List.length_nil]; omega)) only [go_sem, Nat.reduceAdd, Nat.reduceMul, Nat.reduceSub, Int.reduceAdd, Int.reduceMul, Int.reduceSub, Int.reduceNeg, Int.reduceToNat, q12], by simp -implicitDefEqProofs (disch := first | omega | (simp only [St.set_n, St.up_n, List.length_cons, List.length_nil]; omega)) only [go_sem, Nat.reduceAdd, Nat.reduceMul, Nat.reduceSub, Int.reduceAdd, Int.reduceMul, Int.reduceSub, Int.reduceNeg, Int.reduceToNat, hd]⟩, ⟨by first | (simp -implicitDefEqProofs (disch := first | omega | (simp only [St.set_n, St.up_n, List.length_cons, List.length_nil]; omega)) only [go_sem, Nat.reduceAdd, Nat.reduceMul, Nat.reduceSub, Int.reduceAdd, Int.reduceMul, Int.reduceSub, Int.reduceNeg, Int.reduceToNat]; done) | (simp -implicitDefEqProofs (disch := first | omega | (simp only [St.set_n, St.up_n, List.length_cons, List.length_nil]; omega)) only [go_sem, Nat.reduceAdd, Nat.reduceMul, Nat.reduceSub, Int.reduceAdd, Int.reduceMul, Int.reduceSub, Int.reduceNeg, Int.reduceToNat]; rfl)⟩, ⟨rfl⟩⟩
    clear q6 q11 q12 hd q13
    rintro m2 e s hws ⟨i, hm2, hi2, ⟨q6, q11, q12, hd⟩, ⟨q14⟩, ⟨hse⟩⟩
    subst hse
    by_cases hlt2 : (i : Int) < th.length
    · obtain ⟨l, hl⟩ : ∃ l, th[i]? = some l := ⟨th[i]'(by omega), List.getElem?_eq_getElem (by omega)⟩
      obtain ⟨af, cf, ef, hatf⟩ := hRf.ex
      obtain ⟨b, o, a1, cap1, rfl, cf0, _⟩ := hatf i _ (zth_get hl)
      have eA : A = some ⟨b, o, none⟩ := by injection ef
      subst eA
      obtain ⟨r0, rn⟩ := cf0.rd hws10 fun c y hb => hk10 c y (hbx9 c y hb)
      rw [zl_len] at r0
      have gp := pxs_get' (px := cn mvl N) (show i < th.length by omega)
      have hct : cn mvl N i = l.length := by
        unfold cn
        rw [List.take_of_length_le (by omega), hmvl, rb.ct i (by rw [th2_len]; omega), rc i (by rw [th2_len]; omega), lenT_th2, lenT_get hl]
      rw [hct] at gp
      simp -implicitDefEqProofs (disch := first | omega | (simp only [St.set_n, St.up_n, List.length_cons, List.length_nil]; omega)) only [go_sem, Nat.reduceAdd, Nat.reduceMul, Nat.reduceSub, Int.reduceAdd, Int.reduceMul, Int.reduceSub, Int.reduceNeg, Int.reduceToNat, q6, q12, q14, hlt2, gp, r0]
      exact ⟨_, by omega, i + 1, rfl, by omega, ⟨by simp -implicitDefEqProofs (disch := first | omega | (simp only [St.set_n, St.up_n, List.length_cons, List.length_nil]; omega)) only [go_sem, Nat.reduceAdd, Nat.reduceMul, Nat.reduceSub, Int.reduceAdd, Int.reduceMul, Int.reduceSub, Int.reduceNeg, Int.reduceToNat, q6], by simp -implicitDefEqProofs (disch := first | omega | (simp only [St.set_n, St.up_n, List.length_cons, List.length_nil]; omega)) only [go_sem, Nat.reduceAdd, Nat.reduceMul, Nat.reduceSub, Int.reduceAdd, Int.reduceMul, Int.reduceSub, Int.reduceNeg, Int.reduceToNat, q11], by simp -implicitDefEqProofs (disch := first | omega | (simp only [St.set_n, St.up_n, List.length_cons, List.length_nil]; omega)) only [go_sem, Nat.reduceAdd, Nat.reduceMul, Nat.reduceSub, Int.reduceAdd, Int.reduceMul, Int.reduceSub, Int.reduceNeg, Int.reduceToNat, q12], by simp -implicitDefEqProofs (disch := first | omega | (simp only [St.set_n, St.up_n, List.length_cons, List.length_nil]; omega)) only [go_sem, Nat.reduceAdd, Nat.reduceMul, Nat.reduceSub, Int.reduceAdd, Int.reduceMul, Int.reduceSub, Int.reduceNeg, Int.reduceToNat, hd]⟩, ⟨by simp -implicitDefEqProofs (disch := first | omega | (simp only [St.set_n, St.up_n, List.length_cons, List.length_nil]; omega)) only [go_sem, Nat.reduceAdd, Nat.reduceMul, Nat.reduceSub, Int.reduceAdd, Int.reduceMul, Int.reduceSub, Int.reduceNeg, Int.reduceToNat]; rfl⟩, ⟨rfl⟩⟩
    · simp -implicitDefEqProofs (disch := first | omega | (simp only [St.set_n, St.up_n, List.length_cons, List.length_nil]; omega)) only [go_sem, Nat.reduceAdd, Nat.reduceMul, Nat.reduceSub, Int.reduceAdd, Int.reduceMul, Int.reduceSub, Int.reduceNeg, Int.reduceToNat, q6, q14, hlt2, hd]
      refine ⟨_, To.same (fun d y h2 h3 => ?_) hwf, hK _ (by simp only [St.up_n]; omega)⟩
      have h5 := hk10 d y (ho9 d y h2 h3)
      have h6 : d < s10.n := (hws10.2 _ _ h5).2
      simp -implicitDefEqProofs (disch := first | omega | (simp only [St.set_n, St.up_n, List.length_cons, List.length_nil]; omega)) only [go_sem, Nat.reduceAdd, Nat.reduceMul, Nat.reduceSub, Int.reduceAdd, Int.reduceMul, Int.reduceSub, Int.reduceNeg, Int.reduceToNat, h5]
end
end Go.Proofs.Ytgcojbgkenndhaa
