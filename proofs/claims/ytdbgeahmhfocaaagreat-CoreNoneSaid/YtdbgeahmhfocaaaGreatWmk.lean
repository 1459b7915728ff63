/- A core in memory; its world. -/
import Derived.Test.YtdbgeahmhfocaaaGreatCnw
namespace Go.Proofs.YtdbgeahmhfocaaaGreat
set_option linter.unusedSimpArgs false
set_option linter.unusedVariables false
set_option maxRecDepth 100000
open Go Go.RowKit
section
variable {B : World} {σ : St} {K : Value → St → Prop}
/-- A core in memory, with what its queues have. -/
structure CoreI (q : CB) (nr rn : Nat) (R : Nat → RgS) (rr rb : Nat → Nat) (w : Value) (s : St) : Prop where
  core : ∃ p ro a0 a1 a2 a3, s.m q.c = some (.raw (.cells #[.pointer (some ⟨q.e, 0, none⟩), .pointer (some ⟨p, 0, none⟩), .pointer (some ⟨q.g, 0, none⟩), .pointer (some ⟨ro, 0, none⟩), .pointer a0, .pointer a1, .pointer a2, .pointer a3, w, .int .i64 0] 87 (0, 0)))
  ep : s.m q.e = some (.comp (EpR { now := 0, pin := List.replicate 64 (-1), l0 := [], l1 := [], l2 := [] } q.e))
  gr : s.m q.g = some (.raw (.cells #[.slice (some ⟨q.b, 0, none⟩) (12 : Nat) (12 : Nat)] 138 (0, 0)))
  lk : s.m q.b = some (.raw (.cells (flat fLk (List.replicate 12 (0, 0, 0))).toArray 168 (0, 0)))
  le : q.e < q.c
  lb : q.b < q.c
  own : Own s 100 1 (rgP rr nr) nr w
  ring : ∀ j, j < nr → IsRing s (rr j) (rb j) rn (R j).L (R j).G (R j).D
  ord : ∀ j, j < nr → q.c < rb j ∧ rr j = rb j + 1 ∧ ∀ k, k < j → rr k < rb j
  hb : ∀ b, blk w = some b → q.c < b ∧ ∀ j, j < nr → b ≠ rr j ∧ b ≠ rb j
theorem NewI.coreI {q : CB} {nr rn : Nat} {s : St} {rr rb : Nat → Nat} {w : Value} (h : NewI σ q nr rn s rr rb w) : CoreI q nr rn (fun _ => ⟨[], 0, 0⟩) rr rb w s := by
  obtain ⟨τ, hr⟩ := h.r
  obtain ⟨a0, a1, a2, a3, hc⟩ := hr.core
  exact ⟨⟨_, _, a0, a1, a2, a3, hc⟩, h.ep, h.gr, h.lk, h.le.2, h.lb.2, hr.own, hr.ring, hr.ord, hr.hb⟩
theorem CoreI.keep {q : CB} {nr rn : Nat} {R : Nat → RgS} {s s' : St} {rr rb : Nat → Nat} {w : Value} (h : CoreI q nr rn R rr rb w s) (hk : ∀ c y, s.m c = some y → s'.m c = some y) : CoreI q nr rn R rr rb w s' := by
  obtain ⟨p, ro, a0, a1, a2, a3, hc⟩ := h.core
  exact ⟨⟨p, ro, a0, a1, a2, a3, hk _ _ hc⟩, hk _ _ h.ep, hk _ _ h.gr, hk _ _ h.lk, h.le, h.lb, h.own.keepR fun b o _ ho => hk _ _ ho, fun j hj => ⟨(h.ring j hj).ne, (h.ring j hj).pos, (h.ring j hj).big, (h.ring j hj).full, (h.ring j hj).low, hk _ _ (h.ring j hj).root, hk _ _ (h.ring j hj).row⟩, h.ord, h.hb⟩
theorem ne_of {s : St} {a b : Nat} {x y : HP} (h1 : s.m a = some x) (h2 : s.m b = some y) (hxy : x ≠ y) : a ≠ b := fun e => by
  rw [e, h2] at h1; exact hxy (Option.some.inj h1).symm
theorem rgP_get {rr : Nat → Nat} {n i : Nat} (hi : i < n) (sp : List Value) : (rgP rr n ++ sp)[i]? = some (.pointer (some ⟨rr i, 0, none⟩)) := by
  rw [List.getElem?_append_left (by simp [rgP]; exact hi)]
  simp [rgP, hi]
theorem ring_ofI {q : CB} {nr rn : Nat} {R : Nat → RgS} {s : St} {rr rb : Nat → Nat} {w : Value} (h : CoreI q nr rn R rr rb w s) (h8 : nr ≤ 8) {sub : Int} (hK : K (if 1 ≤ sub ∧ sub ≤ nr then .pointer (some ⟨rr (sub - 1).toNat, 0, none⟩) else .pointer none) s) : Fn Tryz.prog B 31 #[.pointer (some ⟨q.c, 0, none⟩), .int .i64 sub] s K := by
  obtain ⟨p, ro, a0, a1, a2, a3, o1⟩ := h.core
  obtain ⟨A, C, rfl, hC⟩ := h.own.is
  refine Fn.of is31 (by simp) fun hwf => ?_
  simp only [b31, Tryz.f31, Option.getD_some]
  by_cases h1 : sub < 1
  · rw [if_neg (by omega)] at hK
    simp -implicitDefEqProofs (disch := first | omega | (simp only [St.set_n, St.up_n, List.length_cons, List.length_nil]; omega)) only [go_sem, Nat.reduceAdd, Nat.reduceMul, Nat.reduceSub, Int.reduceAdd, Int.reduceMul, Int.reduceSub, Int.reduceNeg, Int.reduceToNat, o1, h1]
    exact hK
  · by_cases h2 : (nr : Int) < sub
    · rw [if_neg (by omega)] at hK
      simp -implicitDefEqProofs (disch := first | omega | (simp only [St.set_n, St.up_n, List.length_cons, List.length_nil]; omega)) only [go_sem, Nat.reduceAdd, Nat.reduceMul, Nat.reduceSub, Int.reduceAdd, Int.reduceMul, Int.reduceSub, Int.reduceNeg, Int.reduceToNat, o1, h1, h2]
      exact hK
    · obtain ⟨rk, c1, sp, e, hc1, o2, _, _⟩ := h.own.has (by omega)
      cases e
      obtain ⟨i, rfl⟩ : ∃ i : Nat, sub = (i : Int) + 1 := ⟨(sub - 1).toNat, by omega⟩
      have hi : i < nr := by omega
      have e1 : (i : Int) + 1 - 1 = i := by omega
      rw [if_pos (by omega), e1, Int.toNat_natCast] at hK
      have x0 := rgP_get (rr := rr) hi sp
      have e2 : (i : Int) < nr := by omega
      simp -implicitDefEqProofs (disch := first | omega | (simp only [St.set_n, St.up_n, List.length_cons, List.length_nil]; omega)) only [go_sem, Nat.reduceAdd, Nat.reduceMul, Nat.reduceSub, Int.reduceAdd, Int.reduceMul, Int.reduceSub, Int.reduceNeg, Int.reduceToNat, o1, h1, h2, e1, e2, o2, x0]
      exact hK
def putR (rn : Nat) (R : RgS) (m : Mg) : RgS := ⟨if R.L.length < rn then R.L ++ [m] else R.L, R.G, if R.L.length < rn then R.D else IntKind.i64.wrap (R.D + 1)⟩
theorem ring_put_nil {m : Mg} (hK : ∀ τ, σ.n ≤ τ.n → (∀ c y, σ.m c = some y → τ.m c = some y) → K (.bool false) τ) : Fn Tryz.prog B 32 #[.pointer none, .agg (fM m).toArray] σ K := by
  refine Fn.of is32 (by simp) fun hwf => ?_
  simp only [b32, Tryz.f32, Option.getD_some]
  simp -implicitDefEqProofs (disch := first | omega | (simp only [St.set_n, St.up_n, List.length_cons, List.length_nil]; omega)) only [go_sem, Nat.reduceAdd, Nat.reduceMul, Nat.reduceSub, Int.reduceAdd, Int.reduceMul, Int.reduceSub, Int.reduceNeg, Int.reduceToNat, fM]
  refine hK _ (by simp only [St.up_n]; omega) fun c y hc => ?_
  have := (hwf.2 _ _ hc).2
  simp -implicitDefEqProofs (disch := first | omega | (simp only [St.set_n, St.up_n, List.length_cons, List.length_nil]; omega)) only [go_sem, Nat.reduceAdd, Nat.reduceMul, Nat.reduceSub, Int.reduceAdd, Int.reduceMul, Int.reduceSub, Int.reduceNeg, Int.reduceToNat, hc]
theorem CoreI.one {q : CB} {nr rn : Nat} {R : Nat → RgS} {s s' : St} {rr rb : Nat → Nat} {w : Value} (h : CoreI q nr rn R rr rb w s) {i : Nat} (hi : i < nr) {R' : RgS} (hr : IsRing s' (rr i) (rb i) rn R'.L R'.G R'.D) (hk : ∀ c y, c ≠ rr i → c ≠ rb i → s.m c = some y → s'.m c = some y) : CoreI q nr rn (updL R i R') rr rb w s' := by
  obtain ⟨p, ro, a0, a1, a2, a3, hc⟩ := h.core
  obtain ⟨o1, o2, o3⟩ := h.ord i hi
  have h1 := h.ring i hi
  have hle := h.le
  refine ⟨⟨p, ro, a0, a1, a2, a3, hk _ _ (by omega) (by omega) hc⟩, hk _ _ (by omega) (by omega) h.ep, hk _ _ (ne_of h.gr h1.root (by simp)) (ne_of h.gr h1.row (by simp)) h.gr, hk _ _ (ne_of h.lk h1.root (by simp)) (ne_of h.lk h1.row (by simp)) h.lk, h.le, h.lb, h.own.keepR fun b o hb ho => hk _ _ ((h.hb b hb).2 i hi).1 ((h.hb b hb).2 i hi).2 ho, fun j hj => ?_, h.ord, h.hb⟩
  by_cases e : j = i
  · subst e
    rw [updL_eq]; exact hr
  · rw [updL_ne e]
    obtain ⟨p1, p2, p3⟩ := h.ord j hj
    have h2 := h.ring j hj
    have hlt : j < i ∨ i < j := by omega
    have hne : rr j ≠ rr i ∧ rr j ≠ rb i ∧ rb j ≠ rr i ∧ rb j ≠ rb i := by
      rcases hlt with hl | hl
      · have := o3 j hl; omega
      · have := p3 i hl; omega
    exact ⟨h2.ne, h2.pos, h2.big, h2.full, h2.low, hk _ _ hne.1 hne.2.1 h2.root, hk _ _ hne.2.2.1 hne.2.2.2 h2.row⟩
theorem put_of {q : CB} {nr rn : Nat} {R : Nat → RgS} {s : St} {rr rb : Nat → Nat} {w : Value} (h : CoreI q nr rn R rr rb w s) (h8 : nr ≤ 8) {sub : Int} {m : Mg} (hG : ∀ j, j < nr → (R j).G = 0)
    (hK : ∀ s', CoreI q nr rn (if 1 ≤ sub ∧ sub ≤ nr then updL R (sub - 1).toNat (putR rn (R (sub - 1).toNat) m) else R) rr rb w s' → s.n ≤ s'.n → (∀ c y, (∀ j, j < nr → c ≠ rr j ∧ c ≠ rb j) → s.m c = some y → s'.m c = some y) → s'.wf B → K (.bool (decide (1 ≤ sub ∧ sub ≤ nr) && decide ((R (sub - 1).toNat).L.length < rn))) s') :
    Fn Tryz.prog B 10 #[.pointer (some ⟨q.c, 0, none⟩), .int .i64 sub, .agg (fM m).toArray] s K := by
  refine Fn.of is10 (by simp) fun hwf => ?_
  simp only [b10, Tryz.f10, Option.getD_some]
  simp -implicitDefEqProofs (disch := first | omega | (simp only [St.set_n, St.up_n, List.length_cons, List.length_nil]; omega)) only [go_sem, Nat.reduceAdd, Nat.reduceMul, Nat.reduceSub, Int.reduceAdd, Int.reduceMul, Int.reduceSub, Int.reduceNeg, Int.reduceToNat, fM]
  refine effD_plan [0, 0, 3, 0, 15, 31] [0, 1, 3, 5] (.eag 0 (.eag 1 (.eagq 3 (.alt 2 [3] (.alt 4 [] (.eag 5 .fin) .stop) .stop)))) (by kernel_rfl) ?_
  simp -implicitDefEqProofs (disch := first | omega | (simp only [St.set_n, St.up_n, List.length_cons, List.length_nil]; omega)) only [go_sem, Nat.reduceAdd, Nat.reduceMul, Nat.reduceSub, Int.reduceAdd, Int.reduceMul, Int.reduceSub, Int.reduceNeg, Int.reduceToNat]
  have hk1 : ∀ c y, s.m c = some y → ((s.set s.n (.raw (.cells #[.string m.topic, .string m.pay, .bool m.kept] 40 (0, 0)))).up (s.n + 1)).m c = some y := fun c y hc => by
    have := (hwf.2 _ _ hc).2
    simp -implicitDefEqProofs (disch := first | omega | (simp only [St.set_n, St.up_n, List.length_cons, List.length_nil]; omega)) only [go_sem, Nat.reduceAdd, Nat.reduceMul, Nat.reduceSub, Int.reduceAdd, Int.reduceMul, Int.reduceSub, Int.reduceNeg, Int.reduceToNat, hc]
  have h1 := h.keep hk1
  refine callF_of (ring_ofI h1 h8 ?_)
  by_cases hs : 1 ≤ sub ∧ sub ≤ nr
  · obtain ⟨i, rfl⟩ : ∃ i : Nat, sub = (i : Int) + 1 := ⟨(sub - 1).toNat, by omega⟩
    have hi : i < nr := by omega
    have e1 : ((i : Int) + 1 - 1).toNat = i := by omega
    rw [if_pos hs, e1] at hK ⊢
    rw [decide_eq_true hs, Bool.true_and] at hK
    simp -implicitDefEqProofs (disch := first | omega | (simp only [St.set_n, St.up_n, List.length_cons, List.length_nil]; omega)) only [go_sem, Nat.reduceAdd, Nat.reduceMul, Nat.reduceSub, Int.reduceAdd, Int.reduceMul, Int.reduceSub, Int.reduceNeg, Int.reduceToNat]
    have e0 : (#[.string m.topic, .string m.pay, .bool m.kept] : Array Value) = (fM m).toArray := rfl
    rw [e0]
    have hGi := hG i hi
    have hrn := (h.ring i hi).big
    refine callF_wf (ring_put (x := m) (h1.ring i hi) (by omega) fun τ hr hn hk hwτ => ?_)
    simp only [St.up_n] at hn
    simp -implicitDefEqProofs (disch := first | omega | (simp only [St.set_n, St.up_n, List.length_cons, List.length_nil]; omega)) only [go_sem, Nat.reduceAdd, Nat.reduceMul, Nat.reduceSub, Int.reduceAdd, Int.reduceMul, Int.reduceSub, Int.reduceNeg, Int.reduceToNat]
    refine hK _ (CoreI.one (R' := putR rn (R i) m) h1 hi hr hk) (by omega) (fun c y hc hx => hk c y (hc i hi).1 (hc i hi).2 (hk1 c y hx)) hwτ
  · rw [if_neg hs] at hK ⊢
    rw [decide_eq_false hs, Bool.false_and] at hK
    simp -implicitDefEqProofs (disch := first | omega | (simp only [St.set_n, St.up_n, List.length_cons, List.length_nil]; omega)) only [go_sem, Nat.reduceAdd, Nat.reduceMul, Nat.reduceSub, Int.reduceAdd, Int.reduceMul, Int.reduceSub, Int.reduceNeg, Int.reduceToNat]
    have e0 : (#[.string m.topic, .string m.pay, .bool m.kept] : Array Value) = (fM m).toArray := rfl
    rw [e0]
    refine callF_wf (ring_put_nil fun τ hn hk hwτ => ?_)
    simp only [St.up_n] at hn
    simp -implicitDefEqProofs (disch := first | omega | (simp only [St.set_n, St.up_n, List.length_cons, List.length_nil]; omega)) only [go_sem, Nat.reduceAdd, Nat.reduceMul, Nat.reduceSub, Int.reduceAdd, Int.reduceMul, Int.reduceSub, Int.reduceNeg, Int.reduceToNat]
    exact hK _ (h1.keep hk) (by omega) (fun c y _ hx => hk c y (hk1 c y hx)) hwτ
end
end Go.Proofs.YtdbgeahmhfocaaaGreat
