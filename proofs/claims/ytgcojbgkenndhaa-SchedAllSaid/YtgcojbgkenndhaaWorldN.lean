/- The law's 'chains': a chain of closures for each thread. -/
import Derived.Test.YtgcojbgkenndhaaWorldC
namespace Go.Proofs.Ytgcojbgkenndhaa
set_option linter.unusedSimpArgs false
set_option linter.unusedVariables false
set_option maxRecDepth 100000
open Go Go.RowKit
section
variable {B : World} {σ τ : St} {K : Value → St → Prop}
structure OuF (x2 x3 b6 : Nat) (A : Option Addr) (i c : Nat) (e : Fr) : Prop where
  v2 : e.v 2 = .pointer (some ⟨x2, 0, none⟩)
  v3 : e.v 3 = .pointer (some ⟨x3, 0, none⟩)
  v5 : e.v 5 = .slice A i c
  v6 : e.v 6 = .pointer (some ⟨b6, 0, none⟩)
  d : e.d = []
structure InF (x2 x3 b6 b8 : Nat) (A : Option Addr) (i c : Nat) (A7 : Option Addr) (j c7 : Nat) (e : Fr) : Prop where
  v2 : e.v 2 = .pointer (some ⟨x2, 0, none⟩)
  v3 : e.v 3 = .pointer (some ⟨x3, 0, none⟩)
  v5 : e.v 5 = .slice A i c
  v6 : e.v 6 = .pointer (some ⟨b6, 0, none⟩)
  v7 : e.v 7 = .slice A7 j c7
  v8 : e.v 8 = .pointer (some ⟨b8, 0, none⟩)
  d : e.d = []
def ibx (x : Int) : HP := .raw (.cells #[.int .i64 x] 3 (0, 0))
theorem Own.ne {ty : TypeId} {sz n c : Nat} {cs : List Value} {v : Value} {s : St} {y : HP} (h : Own s ty sz cs n v) (hy : s.m c = some y) (hne : ∀ v, y ≠ .raw (.cells v ty (0, 0))) : blk v ≠ some c := fun e => by
  obtain ⟨_, ⟨rfl, _⟩ | ⟨b, cap, sp, rfl, _, h3, _⟩⟩ := h
  · cases e
  · simp only [blk, Option.some.injEq] at e
    rw [e, hy] at h3
    exact hne _ (Option.some.inj h3)
/-- A closure with its boxes. -/
structure Clo (n0 x3 x2 : Nat) (t p : Nat) (u : Value) (s : St) : Prop where
  ex : ∃ b6 b8, u = clV x3 b6 b8 x2 ∧ s.m b6 = some (ibx t) ∧ s.m b8 = some (ibx p) ∧ n0 ≤ b6 ∧ n0 ≤ b8
theorem Clo.keep {n0 x3 x2 t p : Nat} {u : Value} {s s' : St} (h : Clo n0 x3 x2 t p u s) (hk : ∀ c y, s.m c = some (ibx y) → s'.m c = some (ibx y)) : Clo n0 x3 x2 t p u s' := by
  obtain ⟨b6, b8, h1, h2, h3, h4, h5⟩ := h.ex
  exact ⟨b6, b8, h1, hk _ _ h2, hk _ _ h3, h4, h5⟩
structure Dn (n0 x3 x2 : Nat) (th : List (List (Int × Int))) (i : Nat) (fs : Nat → List Value) (vs : List Value) (s : St) : Prop where
  len : vs.length = i
  fl : ∀ t, t < i → (fs t).length = lenT th t
  cl : ∀ (t p : Nat) (u : Value), t < i → (fs t)[p]? = some u → Clo n0 x3 x2 t p u s
  ch : ∀ (t : Nat) (v : Value), vs[t]? = some v → ChV n0 (fs t) v s
theorem Dn.keep {n0 x3 x2 i : Nat} {th fs vs} {s s' : St} (h : Dn n0 x3 x2 th i fs vs s) (hk : ∀ c y, s.m c = some y → (∀ v cs, y ≠ .raw (.cells v 94 cs)) → s'.m c = some y) : Dn n0 x3 x2 th i fs vs s' :=
  ⟨h.len, h.fl, fun t p u ht hu => (h.cl t p u ht hu).keep fun c y hx => hk c _ hx fun v cs e => by simp [ibx] at e, fun t v hv => by
    rcases h.ch t v hv with h | ⟨h0, x1, b, cap, sp, h1, h2, h3, h4, h5, h6, h7, h8⟩
    · exact .inl h
    · exact .inr ⟨h0, x1, b, cap, sp, h1, h2, h3, h4, hk _ _ h5 (fun v cs e => by simp at e), h6, hk _ _ h7 (fun v cs e => by simp at e), h8⟩⟩
theorem StV.one' {v : Value} (hv : StV v) : v.oneCell' = true := by rcases hv with rfl | ⟨_, _, _, rfl⟩ <;> rfl
/-- What 'chains' gives. -/
structure ChR (B : World) (Bv : Nat → HP → Prop) (n0 q : Nat) (th : List (List (Int × Int))) (v : Value) (s : St) : Prop where
  ex : ∃ (x3 x2 : Nat) (fs : Nat → List Value) (vs : List Value) (tv : Value), Own s 94 1 vs vs.length v ∧ vs.length = th.length ∧ Dn n0 x3 x2 th th.length fs vs s ∧ RdV Bv B th tv ∧
    s.m x3 = some (.raw (.cells #[.pointer (some ⟨q, 0, none⟩)] 79 (0, 0))) ∧ s.m x2 = some (.raw (.cells #[tv] 77 (0, 0))) ∧ n0 ≤ x3 ∧ n0 ≤ x2 ∧ ∀ b, blk v = some b → n0 ≤ b
set_option maxHeartbeats 8000000 in
theorem chains06 {q : Nat} {th : List (List (Int × Int))} {tv : Value} {Bv : Nat → HP → Prop} (hv : RdV Bv B th tv) (hBv : ∀ c y, Bv c y → σ.m c = some y) (hs : Sm th)
    (hK : ∀ v s, ChR B Bv σ.n q th v s → (∀ c, c < σ.n → s.m c = σ.m c) → σ.n ≤ s.n → K v s) : Fn Try.prog B 45 #[tv, .pointer (some ⟨q, 0, none⟩)] σ K := by
  have hv0 := hv
  obtain ⟨a, cap, rfl, hat⟩ := hv.ex
  have hsn := hs.n
  refine Fn.of is45 (by simp) fun hwf => ?_
  have hB := hwf.1
  simp only [b45, Try.f45, Option.getD_some]
  simp -implicitDefEqProofs (disch := first | omega | (simp only [St.set_n, St.up_n, List.length_cons, List.length_nil]; omega)) only [go_sem, Nat.reduceAdd, Nat.reduceMul, Nat.reduceSub, Int.reduceAdd, Int.reduceMul, Int.reduceSub, Int.reduceNeg, Int.reduceToNat]
  refine loop_rule (fun m e s => ∃ (i b6 : Nat) (A : Option Addr) (c : Nat) (fs : Nat → List Value) (vs : List Value), m = th.length - i ∧ i ≤ th.length ∧ OuF σ.n (σ.n + 1) b6 A i c e ∧
    (∀ c, c < σ.n → s.m c = σ.m c) ∧ s.m σ.n = some (.raw (.cells #[.slice a th.length cap] 77 (0, 0))) ∧ s.m (σ.n + 1) = some (.raw (.cells #[.pointer (some ⟨q, 0, none⟩)] 79 (0, 0))) ∧
    s.m b6 = some (ibx i) ∧ σ.n ≤ b6 ∧ Own s 94 1 vs i (.slice A i c) ∧ (∀ b, blk (.slice A i c) = some b → σ.n ≤ b) ∧ Dn σ.n (σ.n + 1) σ.n th i fs vs s) th.length ?_ ?_
  · refine ⟨0, σ.n + 2, none, 0, fun _ => [], [], by omega, by omega, ⟨by simp -implicitDefEqProofs (disch := first | omega | (simp only [St.set_n, St.up_n, List.length_cons, List.length_nil]; omega)) only [go_sem, Nat.reduceAdd, Nat.reduceMul, Nat.reduceSub, Int.reduceAdd, Int.reduceMul, Int.reduceSub, Int.reduceNeg, Int.reduceToNat], by simp -implicitDefEqProofs (disch := first | omega | (simp only [St.set_n, St.up_n, List.length_cons, List.length_nil]; omega)) only [go_sem, Nat.reduceAdd, Nat.reduceMul, Nat.reduceSub, Int.reduceAdd, Int.reduceMul, Int.reduceSub, Int.reduceNeg, Int.reduceToNat], by simp -implicitDefEqProofs (disch := first | omega | (simp only [St.set_n, St.up_n, List.length_cons, List.length_nil]; omega)) only [go_sem, Nat.reduceAdd, Nat.reduceMul, Nat.reduceSub, Int.reduceAdd, Int.reduceMul, Int.reduceSub, Int.reduceNeg, Int.reduceToNat], by simp -implicitDefEqProofs (disch := first | omega | (simp only [St.set_n, St.up_n, List.length_cons, List.length_nil]; omega)) only [go_sem, Nat.reduceAdd, Nat.reduceMul, Nat.reduceSub, Int.reduceAdd, Int.reduceMul, Int.reduceSub, Int.reduceNeg, Int.reduceToNat], by simp -implicitDefEqProofs (disch := first | omega | (simp only [St.set_n, St.up_n, List.length_cons, List.length_nil]; omega)) only [go_sem, Nat.reduceAdd, Nat.reduceMul, Nat.reduceSub, Int.reduceAdd, Int.reduceMul, Int.reduceSub, Int.reduceNeg, Int.reduceToNat]⟩, fun c hc => by simp -implicitDefEqProofs (disch := first | omega | (simp only [St.set_n, St.up_n, List.length_cons, List.length_nil]; omega)) only [go_sem, Nat.reduceAdd, Nat.reduceMul, Nat.reduceSub, Int.reduceAdd, Int.reduceMul, Int.reduceSub, Int.reduceNeg, Int.reduceToNat], by simp -implicitDefEqProofs (disch := first | omega | (simp only [St.set_n, St.up_n, List.length_cons, List.length_nil]; omega)) only [go_sem, Nat.reduceAdd, Nat.reduceMul, Nat.reduceSub, Int.reduceAdd, Int.reduceMul, Int.reduceSub, Int.reduceNeg, Int.reduceToNat], by simp -implicitDefEqProofs (disch := first | omega | (simp only [St.set_n, St.up_n, List.length_cons, List.length_nil]; omega)) only [go_sem, Nat.reduceAdd, Nat.reduceMul, Nat.reduceSub, Int.reduceAdd, Int.reduceMul, Int.reduceSub, Int.reduceNeg, Int.reduceToNat], by simp -implicitDefEqProofs (disch := first | omega | (simp only [St.set_n, St.up_n, List.length_cons, List.length_nil]; omega)) only [go_sem, Nat.reduceAdd, Nat.reduceMul, Nat.reduceSub, Int.reduceAdd, Int.reduceMul, Int.reduceSub, Int.reduceNeg, Int.reduceToNat]; rfl, by omega, Own.nil, fun b hb => (by cases hb), ⟨rfl, fun t ht => by omega, fun t p u ht => by omega, fun t v hv => by simp at hv⟩⟩
  rintro m e s hws ⟨i, b6, A, cc, fs, vs, hm, hi, ⟨q2, q3, q5, q6, hd⟩, hold, hx2, hx3, hb6, hb6n, hO, hOn, hD⟩
  unfold ibx at hb6
  by_cases hlt : (i : Int) < th.length
  · obtain ⟨l, hl⟩ : ∃ l, th[i]? = some l := ⟨th[i]'(by omega), List.getElem?_eq_getElem (by omega)⟩
    obtain ⟨b, o, a1, cap1, rfl, c0, _⟩ := hat i l hl
    have hll : l.length ≤ 60 := by
      have := hs.l i (by omega)
      unfold lenT at this
      rw [List.getD_eq_getElem?_getD, hl] at this
      exact this
    have hb6s := (hws.2 _ _ hb6).2
    simp -implicitDefEqProofs (disch := first | omega | (simp only [St.set_n, St.up_n, List.length_cons, List.length_nil]; omega)) only [go_sem, Nat.reduceAdd, Nat.reduceMul, Nat.reduceSub, Int.reduceAdd, Int.reduceMul, Int.reduceSub, Int.reduceNeg, Int.reduceToNat, q2, q3, q5, q6, hlt, hb6, hx2]
    refine loop_rule (fun m e s' => ∃ (j b8 : Nat) (A7 : Option Addr) (c7 : Nat) (fl : List Value), m = l.length - j ∧ j ≤ l.length ∧ InF σ.n (σ.n + 1) b6 b8 A i cc A7 j c7 e ∧ (∀ c, c < s.n → s'.m c = s.m c) ∧ s.n ≤ s'.n ∧
      s'.m b8 = some (ibx j) ∧ s.n ≤ b8 ∧ Own s' 23 1 fl j (.slice A7 j c7) ∧ (∀ b, blk (.slice A7 j c7) = some b → s.n ≤ b) ∧ fl.length = j ∧ ∀ (p : Nat) (u : Value), fl[p]? = some u → Clo σ.n (σ.n + 1) σ.n i p u s') l.length ?_ ?_
    · refine ⟨0, s.n, none, 0, [], by omega, by omega, ⟨by simp -implicitDefEqProofs (disch := first | omega | (simp only [St.set_n, St.up_n, List.length_cons, List.length_nil]; omega)) only [go_sem, Nat.reduceAdd, Nat.reduceMul, Nat.reduceSub, Int.reduceAdd, Int.reduceMul, Int.reduceSub, Int.reduceNeg, Int.reduceToNat, q2], by simp -implicitDefEqProofs (disch := first | omega | (simp only [St.set_n, St.up_n, List.length_cons, List.length_nil]; omega)) only [go_sem, Nat.reduceAdd, Nat.reduceMul, Nat.reduceSub, Int.reduceAdd, Int.reduceMul, Int.reduceSub, Int.reduceNeg, Int.reduceToNat, q3], by simp -implicitDefEqProofs (disch := first | omega | (simp only [St.set_n, St.up_n, List.length_cons, List.length_nil]; omega)) only [go_sem, Nat.reduceAdd, Nat.reduceMul, Nat.reduceSub, Int.reduceAdd, Int.reduceMul, Int.reduceSub, Int.reduceNeg, Int.reduceToNat, q5], by simp -implicitDefEqProofs (disch := first | omega | (simp only [St.set_n, St.up_n, List.length_cons, List.length_nil]; omega)) only [go_sem, Nat.reduceAdd, Nat.reduceMul, Nat.reduceSub, Int.reduceAdd, Int.reduceMul, Int.reduceSub, Int.reduceNeg, Int.reduceToNat, q6], by simp -implicitDefEqProofs (disch := first | omega | (simp only [St.set_n, St.up_n, List.length_cons, List.length_nil]; omega)) only [go_sem, Nat.reduceAdd, Nat.reduceMul, Nat.reduceSub, Int.reduceAdd, Int.reduceMul, Int.reduceSub, Int.reduceNeg, Int.reduceToNat], by simp -implicitDefEqProofs (disch := first | omega | (simp only [St.set_n, St.up_n, List.length_cons, List.length_nil]; omega)) only [go_sem, Nat.reduceAdd, Nat.reduceMul, Nat.reduceSub, Int.reduceAdd, Int.reduceMul, Int.reduceSub, Int.reduceNeg, Int.reduceToNat], by simp -implicitDefEqProofs (disch := first | omega | (simp only [St.set_n, St.up_n, List.length_cons, List.length_nil]; omega)) only [go_sem, Nat.reduceAdd, Nat.reduceMul, Nat.reduceSub, Int.reduceAdd, Int.reduceMul, Int.reduceSub, Int.reduceNeg, Int.reduceToNat, hd]⟩, fun c hc => by simp -implicitDefEqProofs (disch := first | omega | (simp only [St.set_n, St.up_n, List.length_cons, List.length_nil]; omega)) only [go_sem, Nat.reduceAdd, Nat.reduceMul, Nat.reduceSub, Int.reduceAdd, Int.reduceMul, Int.reduceSub, Int.reduceNeg, Int.reduceToNat], by simp only [St.up_n]; omega, by simp -implicitDefEqProofs (disch := first | omega | (simp only [St.set_n, St.up_n, List.length_cons, List.length_nil]; omega)) only [go_sem, Nat.reduceAdd, Nat.reduceMul, Nat.reduceSub, Int.reduceAdd, Int.reduceMul, Int.reduceSub, Int.reduceNeg, Int.reduceToNat]; rfl, by omega, Own.nil, fun b hb => (by cases hb), rfl, fun p u hu => by simp at hu⟩
    clear hd q2 q3 q5 q6
    rintro m2 e s' hws' ⟨j, b8, A7, c7, fl, hm2, hj, ⟨q2, q3, q5, q6, q7, q8, hd⟩, hold', hn', hb8, hb8n, hO7, hO7n, hfl, hcl⟩
    unfold ibx at hb8
    have hb6' := (hold' b6 hb6s).trans hb6
    have hx2' := (hold' _ (hws.2 _ _ hx2).2).trans hx2
    have hx3' := (hold' _ (hws.2 _ _ hx3).2).trans hx3
    obtain ⟨r0, _⟩ := c0.rd hws' fun c y hb => (hold' c (hws.2 _ _ ((hold c (hwf.2 _ _ (hBv c y hb)).2).trans (hBv c y hb))).2).trans ((hold c (hwf.2 _ _ (hBv c y hb)).2).trans (hBv c y hb))
    by_cases hlt2 : (j : Int) < l.length
    · simp -implicitDefEqProofs (disch := first | omega | (simp only [St.set_n, St.up_n, List.length_cons, List.length_nil]; omega)) only [go_sem, Nat.reduceAdd, Nat.reduceMul, Nat.reduceSub, Int.reduceAdd, Int.reduceMul, Int.reduceSub, Int.reduceNeg, Int.reduceToNat, q2, q3, q6, q7, q8, hlt2, hb6', hx2', hb8, r0]
      refine appE hws' hO7 se115 kd115 zr23 rfl (by omega) (ys := [clV (σ.n + 1) b6 b8 σ.n]) rfl rfl (by omega) fun A' C' s2 hC' o2 heq hb1 hn2 hws2 => ?_
      have hb8n' := (hws'.2 _ _ hb8).2
      have hb8' := (heq b8 hb8n' (hO7.ne hb8 (by simp))).trans hb8
      simp -implicitDefEqProofs (disch := first | omega | (simp only [St.set_n, St.up_n, List.length_cons, List.length_nil]; omega)) only [go_sem, Nat.reduceAdd, Nat.reduceMul, Nat.reduceSub, Int.reduceAdd, Int.reduceMul, Int.reduceSub, Int.reduceNeg, Int.reduceToNat, q8, hb8', hd]
      have k2 : ∀ c x, s'.m c = some (ibx x) → s2.m c = some (ibx x) := fun c x hx => (heq c (hws'.2 _ _ hx).2 (hO7.ne hx (by simp [ibx]))).trans hx
      refine ⟨l.length - (j + 1), by omega, j + 1, s2.n, A', C', fl ++ [clV (σ.n + 1) b6 b8 σ.n], rfl, by omega, ⟨by simp -implicitDefEqProofs (disch := first | omega | (simp only [St.set_n, St.up_n, List.length_cons, List.length_nil]; omega)) only [go_sem, Nat.reduceAdd, Nat.reduceMul, Nat.reduceSub, Int.reduceAdd, Int.reduceMul, Int.reduceSub, Int.reduceNeg, Int.reduceToNat, q2], by simp -implicitDefEqProofs (disch := first | omega | (simp only [St.set_n, St.up_n, List.length_cons, List.length_nil]; omega)) only [go_sem, Nat.reduceAdd, Nat.reduceMul, Nat.reduceSub, Int.reduceAdd, Int.reduceMul, Int.reduceSub, Int.reduceNeg, Int.reduceToNat, q3], by simp -implicitDefEqProofs (disch := first | omega | (simp only [St.set_n, St.up_n, List.length_cons, List.length_nil]; omega)) only [go_sem, Nat.reduceAdd, Nat.reduceMul, Nat.reduceSub, Int.reduceAdd, Int.reduceMul, Int.reduceSub, Int.reduceNeg, Int.reduceToNat, q5], by simp -implicitDefEqProofs (disch := first | omega | (simp only [St.set_n, St.up_n, List.length_cons, List.length_nil]; omega)) only [go_sem, Nat.reduceAdd, Nat.reduceMul, Nat.reduceSub, Int.reduceAdd, Int.reduceMul, Int.reduceSub, Int.reduceNeg, Int.reduceToNat, q6], by simp -implicitDefEqProofs (disch := first | omega | (simp only [St.set_n, St.up_n, List.length_cons, List.length_nil]; omega)) only [go_sem, Nat.reduceAdd, Nat.reduceMul, Nat.reduceSub, Int.reduceAdd, Int.reduceMul, Int.reduceSub, Int.reduceNeg, Int.reduceToNat], by simp -implicitDefEqProofs (disch := first | omega | (simp only [St.set_n, St.up_n, List.length_cons, List.length_nil]; omega)) only [go_sem, Nat.reduceAdd, Nat.reduceMul, Nat.reduceSub, Int.reduceAdd, Int.reduceMul, Int.reduceSub, Int.reduceNeg, Int.reduceToNat], by first | exact hd | (simp -implicitDefEqProofs (disch := first | omega | (simp only [St.set_n, St.up_n, List.length_cons, List.length_nil]; omega)) only [go_sem, Nat.reduceAdd, Nat.reduceMul, Nat.reduceSub, Int.reduceAdd, Int.reduceMul, Int.reduceSub, Int.reduceNeg, Int.reduceToNat, hd])⟩, fun c hc => ?_, by first | omega | (simp only [St.set_n, St.up_n]; omega), by simp -implicitDefEqProofs (disch := first | omega | (simp only [St.set_n, St.up_n, List.length_cons, List.length_nil]; omega)) only [go_sem, Nat.reduceAdd, Nat.reduceMul, Nat.reduceSub, Int.reduceAdd, Int.reduceMul, Int.reduceSub, Int.reduceNeg, Int.reduceToNat]; rfl, by omega, o2.keepR fun b o hb ho => ?_, fun b hb => ?_, by simp [hfl], fun p u hu => ?_⟩
      · have h1 : blk (.slice A7 j c7) ≠ some c := fun e => by have := hO7n c e; omega
        have h2 := (heq c (by omega) h1).trans (hold' c hc)
        simp -implicitDefEqProofs (disch := first | omega | (simp only [St.set_n, St.up_n, List.length_cons, List.length_nil]; omega)) only [go_sem, Nat.reduceAdd, Nat.reduceMul, Nat.reduceSub, Int.reduceAdd, Int.reduceMul, Int.reduceSub, Int.reduceNeg, Int.reduceToNat, h2]
      · have := (hws2.2 _ _ ho).2
        simp -implicitDefEqProofs (disch := first | omega | (simp only [St.set_n, St.up_n, List.length_cons, List.length_nil]; omega)) only [go_sem, Nat.reduceAdd, Nat.reduceMul, Nat.reduceSub, Int.reduceAdd, Int.reduceMul, Int.reduceSub, Int.reduceNeg, Int.reduceToNat, ho]
      · rcases hb1 b hb with h | h
        · omega
        · exact hO7n b h
      · by_cases hp : p < fl.length
        · rw [List.getElem?_append_left hp] at hu
          refine (hcl p u hu).keep fun c x hx => ?_
          have h1 := k2 c x hx
          have := (hws2.2 _ _ h1).2
          simp -implicitDefEqProofs (disch := first | omega | (simp only [St.set_n, St.up_n, List.length_cons, List.length_nil]; omega)) only [go_sem, Nat.reduceAdd, Nat.reduceMul, Nat.reduceSub, Int.reduceAdd, Int.reduceMul, Int.reduceSub, Int.reduceNeg, Int.reduceToNat, h1]
        · have hpj : p = j := by
            have := (List.getElem?_eq_some_iff.1 hu).1
            simp at this; omega
          subst hpj
          rw [List.getElem?_append_right (by omega)] at hu
          simp [hfl] at hu
          have h1 := k2 b6 i hb6'
          have h2 := (hws2.2 _ _ h1).2
          have h3 := (hws2.2 _ _ hb8').2
          exact ⟨b6, b8, hu.symm, by simp -implicitDefEqProofs (disch := first | omega | (simp only [St.set_n, St.up_n, List.length_cons, List.length_nil]; omega)) only [go_sem, Nat.reduceAdd, Nat.reduceMul, Nat.reduceSub, Int.reduceAdd, Int.reduceMul, Int.reduceSub, Int.reduceNeg, Int.reduceToNat, h1], by simp -implicitDefEqProofs (disch := first | omega | (simp only [St.set_n, St.up_n, List.length_cons, List.length_nil]; omega)) only [go_sem, Nat.reduceAdd, Nat.reduceMul, Nat.reduceSub, Int.reduceAdd, Int.reduceMul, Int.reduceSub, Int.reduceNeg, Int.reduceToNat, hb8']; rfl, by omega, by omega⟩
    · have hjl : j = l.length := by omega
      subst hfl
      simp -implicitDefEqProofs (disch := first | omega | (simp only [St.set_n, St.up_n, List.length_cons, List.length_nil]; omega)) only [go_sem, Nat.reduceAdd, Nat.reduceMul, Nat.reduceSub, Int.reduceAdd, Int.reduceMul, Int.reduceSub, Int.reduceNeg, Int.reduceToNat, q2, q3, q6, q7, q8, hlt2, hb6', hx2', hb8, r0]
      have hvf : ∀ u ∈ fl, isFn u = true ∧ StV u := fun u hu => by
        obtain ⟨p, hp⟩ := List.getElem?_of_mem hu
        obtain ⟨_, _, rfl, _⟩ := (hcl p u hp).ex
        exact ⟨rfl, .inr ⟨_, _, _, rfl⟩⟩
      have hO7l : ∀ b o, blk (.slice A7 fl.length c7) = some b → s'.m b = some (.raw o) → b < s'.n := fun b o _ ho => (hws'.2 _ _ ho).2
      refine callF_wf (chain_of (fs := fl) (by omega) hvf ⟨⟨_, _, rfl⟩, hO7.fc⟩ (fun s3 hs3 => (hO7.keepR (σ' := s3) fun b o hb ho => (hs3 b (hO7l b o hb ho)).trans ho).fc) fun v' s2 hC hold2 hn2 hws2 => ?_)
      have hbOn : ∀ b, blk (.slice A i cc) = some b → b < s.n := fun b hb => by
        obtain ⟨o, ho⟩ := hO.at_ hb
        exact (hws.2 _ _ ho).2
      have hkO : ∀ c, c < s.n → s2.m c = s.m c := fun c hc => (hold2 c (by omega)).trans (hold' c hc)
      have hO2 : Own s2 94 1 vs i (.slice A i cc) := hO.keepR fun b o hb ho => (hkO b (hbOn b hb)).trans ho
      have hst := hC.st
      have hvc : vc v' = #[v'] := hst.one
      simp -implicitDefEqProofs (disch := first | omega | (simp only [St.set_n, St.up_n, List.length_cons, List.length_nil]; omega)) only [go_sem, Nat.reduceAdd, Nat.reduceMul, Nat.reduceSub, Int.reduceAdd, Int.reduceMul, Int.reduceSub, Int.reduceNeg, Int.reduceToNat, q5, hvc]
      refine appE hws2 hO2 se86 kd86 zr94 rfl (by omega) (ys := [v']) rfl (by rw [List.all_cons, hst.one']; rfl) (by omega) fun A' C' s3 hC' o3 heq hb1 hn3 hws3 => ?_
      have hb6'' := (heq b6 (by omega) (hO2.ne ((hkO b6 hb6s).trans hb6) (by simp))).trans ((hkO b6 hb6s).trans hb6)
      have hk3 : ∀ c y, s2.m c = some y → (∀ v, y ≠ .raw (.cells v 94 (0, 0))) → s3.m c = some y := fun c y hx hy => (heq c (hws2.2 _ _ hx).2 (hO2.ne hx hy)).trans hx
      simp -implicitDefEqProofs (disch := first | omega | (simp only [St.set_n, St.up_n, List.length_cons, List.length_nil]; omega)) only [go_sem, Nat.reduceAdd, Nat.reduceMul, Nat.reduceSub, Int.reduceAdd, Int.reduceMul, Int.reduceSub, Int.reduceNeg, Int.reduceToNat, q6, hb6'', hd]
      have hs4 : ∀ (c : Nat) (y : HP), s3.m c = some y → ((s3.set s3.n (.raw (.cells #[.int .i64 (i + 1)] 3 (0, 0)))).up (s3.n + 1)).m c = some y := fun c y hx => by
        have := (hws3.2 _ _ hx).2
        simp -implicitDefEqProofs (disch := first | omega | (simp only [St.set_n, St.up_n, List.length_cons, List.length_nil]; omega)) only [go_sem, Nat.reduceAdd, Nat.reduceMul, Nat.reduceSub, Int.reduceAdd, Int.reduceMul, Int.reduceSub, Int.reduceNeg, Int.reduceToNat, hx]
      have hfr : ∀ (c : Nat) (y : HP), s.m c = some y → (∀ v, y ≠ .raw (.cells v 94 (0, 0))) → ((s3.set s3.n (.raw (.cells #[.int .i64 (i + 1)] 3 (0, 0)))).up (s3.n + 1)).m c = some y := fun c y hx hy =>
        hs4 c y (hk3 c y ((hkO c (hws.2 _ _ hx).2).trans hx) hy)
      refine ⟨th.length - (i + 1), by omega, i + 1, s3.n, A', C', fun t => if t = i then fl else fs t, vs ++ [v'], rfl, by omega, ⟨by simp -implicitDefEqProofs (disch := first | omega | (simp only [St.set_n, St.up_n, List.length_cons, List.length_nil]; omega)) only [go_sem, Nat.reduceAdd, Nat.reduceMul, Nat.reduceSub, Int.reduceAdd, Int.reduceMul, Int.reduceSub, Int.reduceNeg, Int.reduceToNat, q2], by simp -implicitDefEqProofs (disch := first | omega | (simp only [St.set_n, St.up_n, List.length_cons, List.length_nil]; omega)) only [go_sem, Nat.reduceAdd, Nat.reduceMul, Nat.reduceSub, Int.reduceAdd, Int.reduceMul, Int.reduceSub, Int.reduceNeg, Int.reduceToNat, q3], by simp -implicitDefEqProofs (disch := first | omega | (simp only [St.set_n, St.up_n, List.length_cons, List.length_nil]; omega)) only [go_sem, Nat.reduceAdd, Nat.reduceMul, Nat.reduceSub, Int.reduceAdd, Int.reduceMul, Int.reduceSub, Int.reduceNeg, Int.reduceToNat], by simp -implicitDefEqProofs (disch := first | omega | (simp only [St.set_n, St.up_n, List.length_cons, List.length_nil]; omega)) only [go_sem, Nat.reduceAdd, Nat.reduceMul, Nat.reduceSub, Int.reduceAdd, Int.reduceMul, Int.reduceSub, Int.reduceNeg, Int.reduceToNat], by first | exact hd | (simp -implicitDefEqProofs (disch := first | omega | (simp only [St.set_n, St.up_n, List.length_cons, List.length_nil]; omega)) only [go_sem, Nat.reduceAdd, Nat.reduceMul, Nat.reduceSub, Int.reduceAdd, Int.reduceMul, Int.reduceSub, Int.reduceNeg, Int.reduceToNat, hd])⟩, fun c hc => ?_, ?_, ?_, by simp -implicitDefEqProofs (disch := first | omega | (simp only [St.set_n, St.up_n, List.length_cons, List.length_nil]; omega)) only [go_sem, Nat.reduceAdd, Nat.reduceMul, Nat.reduceSub, Int.reduceAdd, Int.reduceMul, Int.reduceSub, Int.reduceNeg, Int.reduceToNat]; rfl, by omega, o3.keepR fun b o _ ho => hs4 b _ ho, fun b hb => ?_, ?_⟩
      · have h1 : blk (.slice A i cc) ≠ some c := fun e => by have := hOn c e; omega
        have h2 := ((heq c (by omega) h1).trans (hkO c (by omega))).trans (hold c hc)
        simp -implicitDefEqProofs (disch := first | omega | (simp only [St.set_n, St.up_n, List.length_cons, List.length_nil]; omega)) only [go_sem, Nat.reduceAdd, Nat.reduceMul, Nat.reduceSub, Int.reduceAdd, Int.reduceMul, Int.reduceSub, Int.reduceNeg, Int.reduceToNat, h2]
      · exact hk3 _ _ ((hkO _ (hws.2 _ _ hx2).2).trans hx2) (by simp)
      · exact hfr _ _ hx3 (by simp)
      · rcases hb1 b hb with h | h
        · omega
        · exact hOn b h
      · have hD' := hD.keep (s' := (s3.set s3.n (.raw (.cells #[.int .i64 (i + 1)] 3 (0, 0)))).up (s3.n + 1)) fun c y hx hy => hfr c y hx fun v => hy v _
        have hlen := hD.len
        refine ⟨by simp [hlen], fun t ht => ?_, fun t p u ht hu => ?_, fun t v hv => ?_⟩
        · by_cases e : t = i
          · subst e
            simp only [if_true]
            unfold lenT
            rw [List.getD_eq_getElem?_getD, hl]
            exact hjl
          · simp only [e, if_false]
            exact hD'.fl t (by omega)
        · by_cases e : t = i
          · subst e
            simp only [if_true] at hu
            refine (hcl p u hu).keep fun c x hx => hs4 c _ (hk3 c _ ((hold2 c (hws'.2 _ _ hx).2).trans hx) (by simp [ibx]))
          · simp only [e, if_false] at hu
            exact hD'.cl t p u (by omega) hu
        · by_cases e : t = i
          · subst e
            simp only [if_true]
            rw [List.getElem?_append_right (by omega), hlen, Nat.sub_self] at hv
            simp at hv
            subst hv
            rcases hC with h | ⟨h0, x1, b, cap, sp, h1, h2, h3, h4, h5, h6, h7, h8⟩
            · exact .inl h
            · exact .inr ⟨h0, x1, b, cap, sp, by omega, by omega, h3, h4, hs4 _ _ (hk3 _ _ h5 (by simp)), h6, hs4 _ _ (hk3 _ _ h7 (by simp)), h8⟩
          · simp only [e, if_false]
            refine hD'.ch t v ?_
            have := (List.getElem?_eq_some_iff.1 hv).1
            simp at this
            rw [List.getElem?_append_left (by omega)] at hv
            exact hv
  · simp -implicitDefEqProofs (disch := first | omega | (simp only [St.set_n, St.up_n, List.length_cons, List.length_nil]; omega)) only [go_sem, Nat.reduceAdd, Nat.reduceMul, Nat.reduceSub, Int.reduceAdd, Int.reduceMul, Int.reduceSub, Int.reduceNeg, Int.reduceToNat, q2, q3, q5, q6, hlt, hb6, hx2, hd]
    have hie : i = th.length := by omega
    subst hie
    have hlen := hD.len
    exact hK _ _ ⟨_, _, fs, vs, _, hlen ▸ hO, hlen, hD, hv0, hx3, hx2, by omega, Nat.le_refl _, hOn⟩ hold (by have := (hws.2 _ _ hx2).2; omega)
end
end Go.Proofs.Ytgcojbgkenndhaa
