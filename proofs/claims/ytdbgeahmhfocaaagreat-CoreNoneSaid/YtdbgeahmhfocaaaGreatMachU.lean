/- Threads that take turns: a round. -/
import Derived.Test.YtdbgeahmhfocaaaGreatMachT
namespace Go.Proofs.YtdbgeahmhfocaaaGreat
set_option linter.unusedSimpArgs false
set_option linter.unusedVariables false
set_option maxRecDepth 100000
open Go Go.RowKit
namespace Sys
variable {B : World} {Y : Sys B}
theorem turn_len {a : Y.MA} {t : Int} (hf : fullA a = false) (h : a.mv.length ≤ 65536) : (turnA a t).1.mv.length ≤ 65536 := by
  unfold turnA
  split
  · rename_i hc
    simp only
    split
    · have : leftA a.x = true := List.any_eq_true.2 ⟨t.toNat, List.mem_range.2 (by omega), hc.2.2⟩
      unfold fullA at hf
      rw [this, Bool.and_true] at hf
      simp only [decide_eq_false_iff_not] at hf
      simp; omega
    · exact h
  · exact h
theorem turn_mono (a : Y.MA) (t : Int) : a.mv.length ≤ (turnA a t).1.mv.length ∧ ((turnA a t).2 = true → a.mv.length < (turnA a t).1.mv.length) ∧ (turnA a t).1.ca ≤ a.ca + 1 := by
  unfold turnA
  split
  · simp only
    split
    · simp
    · rename_i h; simp [h]
  · simp
theorem round_len {a : Y.MA} : ∀ (k i : Nat) (y : Bool), a.mv.length ≤ 65536 → (roundA a i y k).1.mv.length ≤ 65536
  | 0, _, _, h => h
  | k + 1, i, y, h => by
    unfold roundA
    split
    · exact h
    · rename_i hf
      exact round_len k (i + 1) _ (turn_len (by simpa using hf) h)
theorem round_mono {a : Y.MA} : ∀ (k i : Nat) (y : Bool), a.mv.length ≤ (roundA a i y k).1.mv.length ∧ ((roundA a i y k).2 = true → y = true ∨ a.mv.length < (roundA a i y k).1.mv.length) ∧ (roundA a i y k).1.ca ≤ a.ca + k
  | 0, _, y => ⟨Nat.le_refl _, fun h => .inl h, Nat.le_refl _⟩
  | k + 1, i, y => by
    unfold roundA
    split
    · exact ⟨Nat.le_refl _, fun h => (by cases h), by simp only; omega⟩
    · obtain ⟨h1, h2, h3⟩ := turn_mono a i
      obtain ⟨h4, h5, h6⟩ := round_mono (a := (turnA a i).1) k (i + 1) (y || (turnA a i).2)
      refine ⟨by omega, fun h => ?_, by omega⟩
      rcases h5 h with h7 | h7
      · rw [Bool.or_eq_true] at h7
        rcases h7 with h8 | h8
        · exact .inl h8
        · have := h2 h8; right; omega
      · right; omega
end Sys
section
variable {B : World} {σ τ : St} {K : Value → St → Prop}
/-- The machine of a system, folded. -/
structure Ms {B : World} (Y : Sys B) (G : Nat → Prop) (σ : St) (q : Nat) (er : Int) (a : Y.MA) (vs : List Value) (s : St) : Prop where
  m : s.m q = some (.comp (MaR ⟨a.mv, a.ca, er, vs⟩ q))
  I : Y.Inv G a.x vs s
  n : σ.n ≤ s.n
  old : ∀ c y, G c → c ≠ q → σ.m c = some y → s.m c = some y
theorem Ms.full {Y : Sys B} {G : Nat → Prop} {q : Nat} {er : Int} {a : Y.MA} {vs : List Value} {s : St} (h : Ms Y G σ q er a vs s) (hN : Y.n ≤ 1000) (hl : a.mv.length ≤ 65536) (hK : K (.bool (Sys.fullA a)) s) : Fn Tryz.prog B 40 #[.pointer (some ⟨q, 0, none⟩)] s K := by
  refine m_full h.m (by rw [show (MM.mk a.mv a.ca er vs).nx = vs from rfl, Y.len h.I]; omega) (by show a.mv.length ≤ 100000; omega) (vals_st h.I) ?_
  show K (.bool (decide (65536 ≤ a.mv.length) && vs.any isFn)) s
  rw [left_any h.I]; exact hK
theorem Ms.left {Y : Sys B} {G : Nat → Prop} {q : Nat} {er : Int} {a : Y.MA} {vs : List Value} {s : St} (h : Ms Y G σ q er a vs s) (hN : Y.n ≤ 1000) (hK : K (.bool (Sys.leftA a.x)) s) : Fn Tryz.prog B 42 #[.pointer (some ⟨q, 0, none⟩)] s K := by
  refine m_left h.m (by rw [show (MM.mk a.mv a.ca er vs).nx = vs from rfl, Y.len h.I]; omega) (vals_st h.I) ?_
  show K (.bool (vs.any isFn)) s
  rw [left_any h.I]; exact hK
theorem Ms.turn {Y : Sys B} {G : Nat → Prop} {q : Nat} {er : Int} {a : Y.MA} {vs : List Value} {s : St} (h : Ms Y G σ q er a vs s) (hG : G q) (hN : Y.n ≤ 1000) (hl : a.mv.length ≤ 65536) (hca : a.ca ≤ 1000000000) (t : Int)
    (hK : ∀ vs' s', Ms Y G σ q er (Sys.turnA a t).1 vs' s' → K (.bool (Sys.turnA a t).2) s') : Fn Tryz.prog B 41 #[.pointer (some ⟨q, 0, none⟩), .int .i64 t] s K :=
  m_turn hG h.m h.I hN (by omega) hca fun vs' s' h1 h2 h3 h4 => hK vs' s' ⟨h1, h2, Nat.le_trans h.n h3, fun c y hc hcq hx => h4 c y hc hcq (h.old c y hc hcq hx)⟩
structure RnI (q n i : Nat) (y : Bool) (e : Fr) : Prop where
  v0 : e.v 0 = .pointer (some ⟨q, 0, none⟩)
  v3 : e.v 3 = .bool y
  v9 : e.v 9 = .int .i64 n
  v10 : e.v 10 = .int .i64 i
  d : e.d = []
structure RnJ (y : Bool) (e : Fr) : Prop where
  v3 : e.v 3 = .bool y
  d : e.d = []
set_option maxHeartbeats 4000000 in
theorem m_round {Y : Sys B} {G : Nat → Prop} {σ0 : St} {q : Nat} {er : Int} {a : Y.MA} {vs : List Value} (h : Ms Y G σ0 q er a vs σ) (hG : G q) (hN : Y.n ≤ 1000) (hl : a.mv.length ≤ 65536) (hca : a.ca ≤ 999000000)
    (hK : ∀ vs' s', Ms Y G σ0 q er (Sys.roundA a 0 false Y.n).1 vs' s' → K (.bool (Sys.roundA a 0 false Y.n).2) s') : Fn Tryz.prog B 43 #[.pointer (some ⟨q, 0, none⟩)] σ K := by
  have hm := h.m
  have hlen := Y.len h.I
  refine Fn.openO hm is43.en fun vv τ hwf hn hr ho ha hk => ?_
  have hT : To B τ σ := by
    have := To.closeO (B := B) (σ := σ) vv hr ho ha hk
    rw [St.set_same hm, hn] at this
    exact this
  obtain ⟨v1, v2, rfl, o1, o2⟩ := ho.two
  simp only at o1 o2
  obtain ⟨A2, c2, rfl, _⟩ := o2.is
  simp only [mRoot_two] at hr
  refine Fn.ofS is43 (by simp) fun _ => ?_
  simp only [b43, Tryz.f43, Option.getD_some]
  refine SemS.seqw fun _ => ?_
  simp -implicitDefEqProofs (disch := first | omega | (simp only [St.set_n, St.up_n, List.length_cons, List.length_nil]; omega)) only [go_sem, Nat.reduceAdd, Nat.reduceMul, Nat.reduceSub, Int.reduceAdd, Int.reduceMul, Int.reduceSub, Int.reduceNeg, Int.reduceToNat]
  refine SemS.seqw fun _ => ?_
  simp -implicitDefEqProofs (disch := first | omega | (simp only [St.set_n, St.up_n, List.length_cons, List.length_nil]; omega)) only [go_sem, Nat.reduceAdd, Nat.reduceMul, Nat.reduceSub, Int.reduceAdd, Int.reduceMul, Int.reduceSub, Int.reduceNeg, Int.reduceToNat]
  refine SemS.seq (fun e s => ∃ vs', RnJ (Sys.roundA a 0 false Y.n).2 e ∧ Ms Y G σ0 q er (Sys.roundA a 0 false Y.n).1 vs' s) ?_ ?_
  · refine SemS.seqw fun _ => ?_
    simp -implicitDefEqProofs (disch := first | omega | (simp only [St.set_n, St.up_n, List.length_cons, List.length_nil]; omega)) only [go_sem, Nat.reduceAdd, Nat.reduceMul, Nat.reduceSub, Int.reduceAdd, Int.reduceMul, Int.reduceSub, Int.reduceNeg, Int.reduceToNat, hr]
    rw [hlen]
    refine SemS.block (SemS.from hT ?_)
    refine SemS.loop (fun m e s => ∃ (i : Nat) (a' : Y.MA) (y : Bool) (vs' : List Value), m = Y.n - i ∧ i ≤ Y.n ∧ RnI q Y.n i y e ∧ Ms Y G σ0 q er a' vs' s ∧ Sys.roundA a' i y (Y.n - i) = Sys.roundA a 0 false Y.n ∧ a'.mv.length ≤ 65536 ∧ a'.ca ≤ a.ca + i) Y.n ?_ ?_
    · exact ⟨0, a, false, vs, by omega, by omega, ⟨by simp -implicitDefEqProofs (disch := first | omega | (simp only [St.set_n, St.up_n, List.length_cons, List.length_nil]; omega)) only [go_sem, Nat.reduceAdd, Nat.reduceMul, Nat.reduceSub, Int.reduceAdd, Int.reduceMul, Int.reduceSub, Int.reduceNeg, Int.reduceToNat], by simp -implicitDefEqProofs (disch := first | omega | (simp only [St.set_n, St.up_n, List.length_cons, List.length_nil]; omega)) only [go_sem, Nat.reduceAdd, Nat.reduceMul, Nat.reduceSub, Int.reduceAdd, Int.reduceMul, Int.reduceSub, Int.reduceNeg, Int.reduceToNat], by simp -implicitDefEqProofs (disch := first | omega | (simp only [St.set_n, St.up_n, List.length_cons, List.length_nil]; omega)) only [go_sem, Nat.reduceAdd, Nat.reduceMul, Nat.reduceSub, Int.reduceAdd, Int.reduceMul, Int.reduceSub, Int.reduceNeg, Int.reduceToNat], by simp -implicitDefEqProofs (disch := first | omega | (simp only [St.set_n, St.up_n, List.length_cons, List.length_nil]; omega)) only [go_sem, Nat.reduceAdd, Nat.reduceMul, Nat.reduceSub, Int.reduceAdd, Int.reduceMul, Int.reduceSub, Int.reduceNeg, Int.reduceToNat]; rfl, by simp -implicitDefEqProofs (disch := first | omega | (simp only [St.set_n, St.up_n, List.length_cons, List.length_nil]; omega)) only [go_sem, Nat.reduceAdd, Nat.reduceMul, Nat.reduceSub, Int.reduceAdd, Int.reduceMul, Int.reduceSub, Int.reduceNeg, Int.reduceToNat]⟩, h, rfl, hl, by omega⟩
    rintro m e s hws ⟨i, a', y, vs', hm', hi, ⟨q0, q3, q9, q10, hd⟩, hM, hR, hl', hca'⟩
    refine SemS.wp fun _ => ?_
    by_cases hlt : (i : Int) < Y.n
    · have hk' : Y.n - i = (Y.n - (i + 1)) + 1 := by omega
      rw [hk', Sys.roundA] at hR
      simp -implicitDefEqProofs (disch := first | omega | (simp only [St.set_n, St.up_n, List.length_cons, List.length_nil]; omega)) only [go_sem, Nat.reduceAdd, Nat.reduceMul, Nat.reduceSub, Int.reduceAdd, Int.reduceMul, Int.reduceSub, Int.reduceNeg, Int.reduceToNat, q0, q9, q10, hlt]
      refine callF_of (hM.full hN hl' ?_)
      cases hf : Sys.fullA a' with
      | true =>
        rw [hf] at hR
        simp only [if_true] at hR
        simp -implicitDefEqProofs (disch := first | omega | (simp only [St.set_n, St.up_n, List.length_cons, List.length_nil]; omega)) only [go_sem, Nat.reduceAdd, Nat.reduceMul, Nat.reduceSub, Int.reduceAdd, Int.reduceMul, Int.reduceSub, Int.reduceNeg, Int.reduceToNat, hd]
        refine ⟨_, To.refl _ _, ?_⟩
        have := hK vs' s
        rw [← hR] at this
        exact this hM
      | false =>
        rw [hf] at hR
        simp only [Bool.false_eq_true, if_false] at hR
        have hl2 := Sys.turn_len (t := i) hf hl'
        have hc2 := (Sys.turn_mono a' i).2.2
        simp -implicitDefEqProofs (disch := first | omega | (simp only [St.set_n, St.up_n, List.length_cons, List.length_nil]; omega)) only [go_sem, Nat.reduceAdd, Nat.reduceMul, Nat.reduceSub, Int.reduceAdd, Int.reduceMul, Int.reduceSub, Int.reduceNeg, Int.reduceToNat, q0]
        refine callF_of (hM.turn hG hN hl' (by omega) i fun vs2 s2 hM2 => ?_)
        cases hok : (Sys.turnA a' i).2 with
        | true =>
          rw [hok, Bool.or_true] at hR
          simp -implicitDefEqProofs (disch := first | omega | (simp only [St.set_n, St.up_n, List.length_cons, List.length_nil]; omega)) only [go_sem, Nat.reduceAdd, Nat.reduceMul, Nat.reduceSub, Int.reduceAdd, Int.reduceMul, Int.reduceSub, Int.reduceNeg, Int.reduceToNat, q10]
          exact ⟨Y.n - (i + 1), by omega, _, To.refl _ _, i + 1, (Sys.turnA a' i).1, true, vs2, rfl, by omega, ⟨by simp -implicitDefEqProofs (disch := first | omega | (simp only [St.set_n, St.up_n, List.length_cons, List.length_nil]; omega)) only [go_sem, Nat.reduceAdd, Nat.reduceMul, Nat.reduceSub, Int.reduceAdd, Int.reduceMul, Int.reduceSub, Int.reduceNeg, Int.reduceToNat, q0], by simp -implicitDefEqProofs (disch := first | omega | (simp only [St.set_n, St.up_n, List.length_cons, List.length_nil]; omega)) only [go_sem, Nat.reduceAdd, Nat.reduceMul, Nat.reduceSub, Int.reduceAdd, Int.reduceMul, Int.reduceSub, Int.reduceNeg, Int.reduceToNat], by simp -implicitDefEqProofs (disch := first | omega | (simp only [St.set_n, St.up_n, List.length_cons, List.length_nil]; omega)) only [go_sem, Nat.reduceAdd, Nat.reduceMul, Nat.reduceSub, Int.reduceAdd, Int.reduceMul, Int.reduceSub, Int.reduceNeg, Int.reduceToNat, q9], by simp -implicitDefEqProofs (disch := first | omega | (simp only [St.set_n, St.up_n, List.length_cons, List.length_nil]; omega)) only [go_sem, Nat.reduceAdd, Nat.reduceMul, Nat.reduceSub, Int.reduceAdd, Int.reduceMul, Int.reduceSub, Int.reduceNeg, Int.reduceToNat]; rfl, by simp -implicitDefEqProofs (disch := first | omega | (simp only [St.set_n, St.up_n, List.length_cons, List.length_nil]; omega)) only [go_sem, Nat.reduceAdd, Nat.reduceMul, Nat.reduceSub, Int.reduceAdd, Int.reduceMul, Int.reduceSub, Int.reduceNeg, Int.reduceToNat, hd]⟩, hM2, hR, hl2, by omega⟩
        | false =>
          rw [hok, Bool.or_false] at hR
          simp -implicitDefEqProofs (disch := first | omega | (simp only [St.set_n, St.up_n, List.length_cons, List.length_nil]; omega)) only [go_sem, Nat.reduceAdd, Nat.reduceMul, Nat.reduceSub, Int.reduceAdd, Int.reduceMul, Int.reduceSub, Int.reduceNeg, Int.reduceToNat, q10]
          exact ⟨Y.n - (i + 1), by omega, _, To.refl _ _, i + 1, (Sys.turnA a' i).1, y, vs2, rfl, by omega, ⟨by simp -implicitDefEqProofs (disch := first | omega | (simp only [St.set_n, St.up_n, List.length_cons, List.length_nil]; omega)) only [go_sem, Nat.reduceAdd, Nat.reduceMul, Nat.reduceSub, Int.reduceAdd, Int.reduceMul, Int.reduceSub, Int.reduceNeg, Int.reduceToNat, q0], by simp -implicitDefEqProofs (disch := first | omega | (simp only [St.set_n, St.up_n, List.length_cons, List.length_nil]; omega)) only [go_sem, Nat.reduceAdd, Nat.reduceMul, Nat.reduceSub, Int.reduceAdd, Int.reduceMul, Int.reduceSub, Int.reduceNeg, Int.reduceToNat, q3], by simp -implicitDefEqProofs (disch := first | omega | (simp only [St.set_n, St.up_n, List.length_cons, List.length_nil]; omega)) only [go_sem, Nat.reduceAdd, Nat.reduceMul, Nat.reduceSub, Int.reduceAdd, Int.reduceMul, Int.reduceSub, Int.reduceNeg, Int.reduceToNat, q9], by simp -implicitDefEqProofs (disch := first | omega | (simp only [St.set_n, St.up_n, List.length_cons, List.length_nil]; omega)) only [go_sem, Nat.reduceAdd, Nat.reduceMul, Nat.reduceSub, Int.reduceAdd, Int.reduceMul, Int.reduceSub, Int.reduceNeg, Int.reduceToNat]; rfl, by simp -implicitDefEqProofs (disch := first | omega | (simp only [St.set_n, St.up_n, List.length_cons, List.length_nil]; omega)) only [go_sem, Nat.reduceAdd, Nat.reduceMul, Nat.reduceSub, Int.reduceAdd, Int.reduceMul, Int.reduceSub, Int.reduceNeg, Int.reduceToNat, hd]⟩, hM2, hR, hl2, by omega⟩
    · have hin : i = Y.n := by omega
      subst hin
      rw [Nat.sub_self, Sys.roundA] at hR
      simp -implicitDefEqProofs (disch := first | omega | (simp only [St.set_n, St.up_n, List.length_cons, List.length_nil]; omega)) only [go_sem, Nat.reduceAdd, Nat.reduceMul, Nat.reduceSub, Int.reduceAdd, Int.reduceMul, Int.reduceSub, Int.reduceNeg, Int.reduceToNat, q9, q10, hlt]
      rw [← hR]
      exact ⟨_, To.refl _ _, vs', ⟨by simp -implicitDefEqProofs (disch := first | omega | (simp only [St.set_n, St.up_n, List.length_cons, List.length_nil]; omega)) only [go_sem, Nat.reduceAdd, Nat.reduceMul, Nat.reduceSub, Int.reduceAdd, Int.reduceMul, Int.reduceSub, Int.reduceNeg, Int.reduceToNat, q3], by simp -implicitDefEqProofs (disch := first | omega | (simp only [St.set_n, St.up_n, List.length_cons, List.length_nil]; omega)) only [go_sem, Nat.reduceAdd, Nat.reduceMul, Nat.reduceSub, Int.reduceAdd, Int.reduceMul, Int.reduceSub, Int.reduceNeg, Int.reduceToNat, hd]⟩, hM⟩
  · rintro e s hws ⟨vs', ⟨q3, hd⟩, hM⟩
    refine SemS.wp fun _ => ?_
    simp -implicitDefEqProofs (disch := first | omega | (simp only [St.set_n, St.up_n, List.length_cons, List.length_nil]; omega)) only [go_sem, Nat.reduceAdd, Nat.reduceMul, Nat.reduceSub, Int.reduceAdd, Int.reduceMul, Int.reduceSub, Int.reduceNeg, Int.reduceToNat, q3, hd]
    exact ⟨_, To.refl _ _, hK vs' s hM⟩
end
end Go.Proofs.YtdbgeahmhfocaaaGreat
