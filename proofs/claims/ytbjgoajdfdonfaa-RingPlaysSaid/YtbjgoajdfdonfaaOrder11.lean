/- 'RingOrder': the walk. -/
import Derived.Test.YtbjgoajdfdonfaaAll11
namespace Go.Proofs.Ytbjgoajdfdonfaa
set_option linter.unusedSimpArgs false
set_option linter.unusedVariables false
set_option maxRecDepth 100000
open Go Go.RowKit
section
variable {B : World} {σ : St} {K : Value → St → Prop}

def RB (x : Bool) (cs : List Value) : Prop := cs = [.bool x]
structure EO (a : Option Addr) (n cap r i : Nat) (D : Nat) (w6 w7 : Value) (e : Fr) : Prop where
  v1 : e.v 1 = .slice a n cap
  v5 : e.v 5 = .pointer (some ⟨r, 0, none⟩)
  v6 : e.v 6 = w6
  v7 : e.v 7 = w7
  v8 : e.v 8 = .int .i64 D
  v9 : e.v 9 = .int .i64 i
  d : e.d = []
structure SO (σ : St) (k n i : Nat) (ins outs L : List Int) (D : Nat) (w6 w7 : Value) (s : St) : Prop where
  ring : IsRing s (k + 1) k n L outs.length D
  eq : ins = outs ++ L
  len : ins.length ≤ i
  dl : D ≤ i
  o6 : Own s 3 1 (ints ins) ins.length w6
  o7 : Own s 3 1 (ints outs) outs.length w7
  d67 : Dis w6 w7
  n6 : ∀ b, blk w6 = some b → k + 2 ≤ b
  n7 : ∀ b, blk w7 = some b → k + 2 ≤ b
  old : ∀ c x, c < σ.n → σ.m c = some x → s.m c = some x
  sn : k + 2 ≤ s.n
theorem SO.move {k n i : Nat} {ins outs L L' ins' outs' : List Int} {D D' : Nat} {w6 w7 : Value} {s τ : St} (h : SO σ k n i ins outs L D w6 w7 s) (hσk : σ.n ≤ k) (hn : τ.n = s.n) (hk : ∀ c, c ≠ k + 1 → c ≠ k → τ.m c = s.m c) :
    Own τ 3 1 (ints ins) ins.length w6 ∧ Own τ 3 1 (ints outs) outs.length w7 ∧ (∀ c x, c < σ.n → σ.m c = some x → τ.m c = some x) ∧ k + 2 ≤ τ.n := by
  refine ⟨h.o6.keepR fun b o hb ho => ?_, h.o7.keepR fun b o hb ho => ?_, fun c x hc hx => ?_, by rw [hn]; exact h.sn⟩
  · have := h.n6 b hb
    rw [hk b (by omega) (by omega)]; exact ho
  · have := h.n7 b hb
    rw [hk b (by omega) (by omega)]; exact ho
  · rw [hk c (by omega) (by omega)]; exact h.old c x hc hx

set_option maxHeartbeats 4000000 in
theorem order11 {lim : Nat} (hlim : lim < 256) {l : List Bool} {v : Value} (hl : SlR B 1 RB l v) (hK : ∀ k, σ.n ≤ k → K (.bool true) (σ.up k)) : Fn Try.prog B 11 #[.int .u8 lim, v] σ K := by
  obtain ⟨a, cap, rfl, hlc, hcm, hnil, hat⟩ := hl
  refine Fn.of' is11 (by simp) fun hwf => ?_
  have hB := hwf.1
  simp only [b11, Try.f11, Option.getD_some]
  simp -implicitDefEqProofs (disch := first | omega | (simp only [St.set_n, St.up_n, List.length_cons, List.length_nil]; omega)) only [go_sem, Nat.reduceAdd, Nat.reduceMul, Nat.reduceSub, Int.reduceAdd, Int.reduceMul, Int.reduceSub, Int.reduceNeg, Int.reduceToNat]
  refine callF_of (awake11 fun k hk => ?_)
  simp -implicitDefEqProofs (disch := first | omega | (simp only [St.set_n, St.up_n, List.length_cons, List.length_nil]; omega)) only [go_sem, Nat.reduceAdd, Nat.reduceMul, Nat.reduceSub, Int.reduceAdd, Int.reduceMul, Int.reduceSub, Int.reduceNeg, Int.reduceToNat]
  by_cases h500 : (500 : Int) < l.length
  · simp -implicitDefEqProofs (disch := first | omega | (simp only [St.set_n, St.up_n, List.length_cons, List.length_nil]; omega)) only [go_sem, Nat.reduceAdd, Nat.reduceMul, Nat.reduceSub, Int.reduceAdd, Int.reduceMul, Int.reduceSub, Int.reduceNeg, Int.reduceToNat, h500]
    exact ⟨_, To.same (fun d y h2 h3 => by simp -implicitDefEqProofs (disch := first | omega | (simp only [St.set_n, St.up_n, List.length_cons, List.length_nil]; omega)) only [go_sem, Nat.reduceAdd, Nat.reduceMul, Nat.reduceSub, Int.reduceAdd, Int.reduceMul, Int.reduceSub, Int.reduceNeg, Int.reduceToNat, h3]) hwf, hK _ (by (try simp only [St.up_n, St.set_n, leftAs] at *); omega)⟩
  simp -implicitDefEqProofs (disch := first | omega | (simp only [St.set_n, St.up_n, List.length_cons, List.length_nil]; omega)) only [go_sem, Nat.reduceAdd, Nat.reduceMul, Nat.reduceSub, Int.reduceAdd, Int.reduceMul, Int.reduceSub, Int.reduceNeg, Int.reduceToNat, h500]
  refine callF_of (ring_new fun τ0 hR0 hn0 hk0 => ?_)
  simp only [St.up_n] at hR0 hn0 hk0
  have hN : ringN (lim : Int) ≤ 1024 := hR0.big
  have hN1 := hR0.pos
  generalize ringN (lim : Int) = n at hR0 hN hN1
  simp -implicitDefEqProofs (disch := first | omega | (simp only [St.set_n, St.up_n, List.length_cons, List.length_nil]; omega)) only [go_sem, Nat.reduceAdd, Nat.reduceMul, Nat.reduceSub, Int.reduceAdd, Int.reduceMul, Int.reduceSub, Int.reduceNeg, Int.reduceToNat]
  refine LoopS.of (SemS.loop (fun m e s => ∃ (i : Nat) (ins outs L : List Int) (D : Nat) (w6 w7 : Value), m = l.length - i ∧ i ≤ l.length ∧ EO a l.length cap (k + 1) i D w6 w7 e ∧ SO σ k n i ins outs L D w6 w7 s) l.length ?_ ?_)
  · refine ⟨0, [], [], [], 0, .slice none 0 0, .slice none 0 0, by omega, by omega, ⟨by simp -implicitDefEqProofs (disch := first | omega | (simp only [St.set_n, St.up_n, List.length_cons, List.length_nil]; omega)) only [go_sem, Nat.reduceAdd, Nat.reduceMul, Nat.reduceSub, Int.reduceAdd, Int.reduceMul, Int.reduceSub, Int.reduceNeg, Int.reduceToNat], by simp -implicitDefEqProofs (disch := first | omega | (simp only [St.set_n, St.up_n, List.length_cons, List.length_nil]; omega)) only [go_sem, Nat.reduceAdd, Nat.reduceMul, Nat.reduceSub, Int.reduceAdd, Int.reduceMul, Int.reduceSub, Int.reduceNeg, Int.reduceToNat], by simp -implicitDefEqProofs (disch := first | omega | (simp only [St.set_n, St.up_n, List.length_cons, List.length_nil]; omega)) only [go_sem, Nat.reduceAdd, Nat.reduceMul, Nat.reduceSub, Int.reduceAdd, Int.reduceMul, Int.reduceSub, Int.reduceNeg, Int.reduceToNat], by simp -implicitDefEqProofs (disch := first | omega | (simp only [St.set_n, St.up_n, List.length_cons, List.length_nil]; omega)) only [go_sem, Nat.reduceAdd, Nat.reduceMul, Nat.reduceSub, Int.reduceAdd, Int.reduceMul, Int.reduceSub, Int.reduceNeg, Int.reduceToNat], by simp -implicitDefEqProofs (disch := first | omega | (simp only [St.set_n, St.up_n, List.length_cons, List.length_nil]; omega)) only [go_sem, Nat.reduceAdd, Nat.reduceMul, Nat.reduceSub, Int.reduceAdd, Int.reduceMul, Int.reduceSub, Int.reduceNeg, Int.reduceToNat]; rfl, by simp -implicitDefEqProofs (disch := first | omega | (simp only [St.set_n, St.up_n, List.length_cons, List.length_nil]; omega)) only [go_sem, Nat.reduceAdd, Nat.reduceMul, Nat.reduceSub, Int.reduceAdd, Int.reduceMul, Int.reduceSub, Int.reduceNeg, Int.reduceToNat]; rfl, by simp -implicitDefEqProofs (disch := first | omega | (simp only [St.set_n, St.up_n, List.length_cons, List.length_nil]; omega)) only [go_sem, Nat.reduceAdd, Nat.reduceMul, Nat.reduceSub, Int.reduceAdd, Int.reduceMul, Int.reduceSub, Int.reduceNeg, Int.reduceToNat]⟩, hR0, rfl, by simp, by simp, Own.nil, Own.nil, by simp -implicitDefEqProofs (disch := first | omega | (simp only [St.set_n, St.up_n, List.length_cons, List.length_nil]; omega)) only [go_sem, Nat.reduceAdd, Nat.reduceMul, Nat.reduceSub, Int.reduceAdd, Int.reduceMul, Int.reduceSub, Int.reduceNeg, Int.reduceToNat], fun b hb => (by cases hb), fun b hb => (by cases hb), fun c x hc hx => hk0 c x (by omega) (by simp -implicitDefEqProofs (disch := first | omega | (simp only [St.set_n, St.up_n, List.length_cons, List.length_nil]; omega)) only [go_sem, Nat.reduceAdd, Nat.reduceMul, Nat.reduceSub, Int.reduceAdd, Int.reduceMul, Int.reduceSub, Int.reduceNeg, Int.reduceToNat, hx]), by omega⟩
  · rintro m e s hws ⟨i, ins, outs, L, D, w6, w7, hm, hi, ⟨q1, q5, q6, q7, q8, q9, hd⟩, hF⟩
    have hil := hF.len
    have hdl := hF.dl
    have hfull := hF.ring.full
    have heq := hF.eq
    have hlen : ins.length = outs.length + L.length := by rw [heq]; simp
    by_cases hlt : (i : Int) < l.length
    · obtain ⟨x, hacc⟩ : ∃ x, l[i]? = some x := ⟨l[i]'(by omega), List.getElem?_eq_getElem (by omega)⟩
      obtain ⟨b, o, cs, rfl, hb, hR, hsz, hcell⟩ := hat i _ hacc
      simp only [RB] at hR
      subst hR
      have c0 : B.cell? ⟨b, o + i * 1, none⟩ = _ := hcell 0 _ rfl
      simp only [Nat.mul_one] at c0
      have hbs := wfLow hws hb
      clear hat hcell hnil hlc hcm hsz
      refine SemS.seqw fun _ => ?_
      simp -implicitDefEqProofs (disch := first | omega | (simp only [St.set_n, St.up_n, List.length_cons, List.length_nil]; omega)) only [go_sem, Nat.reduceAdd, Nat.reduceMul, Nat.reduceSub, Int.reduceAdd, Int.reduceMul, Int.reduceSub, Int.reduceNeg, Int.reduceToNat, q1, q5, q6, q7, q8, q9, hlt]
      refine SemS.seqs (SemS.block ?_)
      have hend : ∀ (e2 : Fr) (s2 : St) (ins outs L : List Int) (D : Nat) (w6 w7 : Value), EO (some ⟨b, o, none⟩) l.length cap (k + 1) (i + 1) D w6 w7 e2 → SO σ k n (i + 1) ins outs L D w6 w7 s2 →
          ∃ m', m' < m ∧ ∃ σ'', To B s2 σ'' ∧ ∃ (i : Nat) (ins outs L : List Int) (D : Nat) (w6 w7 : Value), m' = l.length - i ∧ i ≤ l.length ∧ EO (some ⟨b, o, none⟩) l.length cap (k + 1) i D w6 w7 e2 ∧ SO σ k n i ins outs L D w6 w7 σ'' :=
        fun e2 s2 ins outs L D w6 w7 h1 h2 => ⟨l.length - (i + 1), by omega, s2, To.refl _ _, i + 1, ins, outs, L, D, w6, w7, rfl, by omega, h1, h2⟩
      refine SemS.wp fun _ => ?_
      simp -implicitDefEqProofs (disch := first | omega | (simp only [St.set_n, St.up_n, List.length_cons, List.length_nil]; omega)) only [go_sem, Nat.reduceAdd, Nat.reduceMul, Nat.reduceSub, Int.reduceAdd, Int.reduceMul, Int.reduceSub, Int.reduceNeg, Int.reduceToNat, q1, q5, q6, q7, q8, q9, hlt, hbs, hb, c0]
      have hsn := hF.sn
      cases x with
      | true =>
        simp -implicitDefEqProofs (disch := first | omega | (simp only [St.set_n, St.up_n, List.length_cons, List.length_nil]; omega)) only [go_sem, Nat.reduceAdd, Nat.reduceMul, Nat.reduceSub, Int.reduceAdd, Int.reduceMul, Int.reduceSub, Int.reduceNeg, Int.reduceToNat, q5, q9]
        refine callF_wf (ring_put hF.ring (by omega) fun τ hR' hn' hk' hwτ => ?_)
        obtain ⟨o6, o7, hold, hsn'⟩ := hF.move (L' := L) (ins' := ins) (outs' := outs) (D' := D) hk hn' hk'
        by_cases hlt2 : L.length < n
        · simp only [if_pos hlt2] at hR'
          simp only [hlt2, decide_true]
          simp -implicitDefEqProofs (disch := first | omega | (simp only [St.set_n, St.up_n, List.length_cons, List.length_nil]; omega)) only [go_sem, Nat.reduceAdd, Nat.reduceMul, Nat.reduceSub, Int.reduceAdd, Int.reduceMul, Int.reduceSub, Int.reduceNeg, Int.reduceToNat, q6, q9]
          refine appF_one (sz := 1) (bts := 8) (cs := ints ins) (ys := [.int .i64 i]) hwτ o6 se43 kd43 zr3 rfl (by omega) rfl rfl (by omega) fun A' C' t1 hC' o6' hw1 hk1 hm1 hb1 hn1 => ?_
          obtain ⟨o7', d67'⟩ := hk1 _ _ _ _ _ o7 hF.d67
          simp -implicitDefEqProofs (disch := first | omega | (simp only [St.set_n, St.up_n, List.length_cons, List.length_nil]; omega)) only [go_sem, Nat.reduceAdd, Nat.reduceMul, Nat.reduceSub, Int.reduceAdd, Int.reduceMul, Int.reduceSub, Int.reduceNeg, Int.reduceToNat]
          refine SemS.wp fun _ => ?_
          simp -implicitDefEqProofs (disch := first | omega | (simp only [St.set_n, St.up_n, List.length_cons, List.length_nil]; omega)) only [go_sem, Nat.reduceAdd, Nat.reduceMul, Nat.reduceSub, Int.reduceAdd, Int.reduceMul, Int.reduceSub, Int.reduceNeg, Int.reduceToNat, q9]
          have hoff : ∀ c, c < k + 2 → blk w6 ≠ some c := fun c hc e => by have := hF.n6 c e; omega
          refine hend _ _ (ins ++ [(i : Int)]) outs (L ++ [(i : Int)]) D _ w7 ⟨by simp -implicitDefEqProofs (disch := first | omega | (simp only [St.set_n, St.up_n, List.length_cons, List.length_nil]; omega)) only [go_sem, Nat.reduceAdd, Nat.reduceMul, Nat.reduceSub, Int.reduceAdd, Int.reduceMul, Int.reduceSub, Int.reduceNeg, Int.reduceToNat, q1], by simp -implicitDefEqProofs (disch := first | omega | (simp only [St.set_n, St.up_n, List.length_cons, List.length_nil]; omega)) only [go_sem, Nat.reduceAdd, Nat.reduceMul, Nat.reduceSub, Int.reduceAdd, Int.reduceMul, Int.reduceSub, Int.reduceNeg, Int.reduceToNat, q5], by simp -implicitDefEqProofs (disch := first | omega | (simp only [St.set_n, St.up_n, List.length_cons, List.length_nil]; omega)) only [go_sem, Nat.reduceAdd, Nat.reduceMul, Nat.reduceSub, Int.reduceAdd, Int.reduceMul, Int.reduceSub, Int.reduceNeg, Int.reduceToNat], by simp -implicitDefEqProofs (disch := first | omega | (simp only [St.set_n, St.up_n, List.length_cons, List.length_nil]; omega)) only [go_sem, Nat.reduceAdd, Nat.reduceMul, Nat.reduceSub, Int.reduceAdd, Int.reduceMul, Int.reduceSub, Int.reduceNeg, Int.reduceToNat, q7], by simp -implicitDefEqProofs (disch := first | omega | (simp only [St.set_n, St.up_n, List.length_cons, List.length_nil]; omega)) only [go_sem, Nat.reduceAdd, Nat.reduceMul, Nat.reduceSub, Int.reduceAdd, Int.reduceMul, Int.reduceSub, Int.reduceNeg, Int.reduceToNat, q8], (by first | (simp -implicitDefEqProofs (disch := first | omega | (simp only [St.set_n, St.up_n, List.length_cons, List.length_nil]; omega)) only [go_sem, Nat.reduceAdd, Nat.reduceMul, Nat.reduceSub, Int.reduceAdd, Int.reduceMul, Int.reduceSub, Int.reduceNeg, Int.reduceToNat]; done) | (simp -implicitDefEqProofs (disch := first | omega | (simp only [St.set_n, St.up_n, List.length_cons, List.length_nil]; omega)) only [go_sem, Nat.reduceAdd, Nat.reduceMul, Nat.reduceSub, Int.reduceAdd, Int.reduceMul, Int.reduceSub, Int.reduceNeg, Int.reduceToNat]; rfl) | (simp -implicitDefEqProofs (disch := first | omega | (simp only [St.set_n, St.up_n, List.length_cons, List.length_nil]; omega)) only [go_sem, Nat.reduceAdd, Nat.reduceMul, Nat.reduceSub, Int.reduceAdd, Int.reduceMul, Int.reduceSub, Int.reduceNeg, Int.reduceToNat]; simp)), by simp -implicitDefEqProofs (disch := first | omega | (simp only [St.set_n, St.up_n, List.length_cons, List.length_nil]; omega)) only [go_sem, Nat.reduceAdd, Nat.reduceMul, Nat.reduceSub, Int.reduceAdd, Int.reduceMul, Int.reduceSub, Int.reduceNeg, Int.reduceToNat, hd]⟩ ⟨isRing_keep hR' fun c y hc hy => hm1 c y hy (hoff c (by omega)), by rw [heq]; simp, by simp; omega, by omega, ?_, o7', d67', fun b hb => ?_, hF.n7, fun c y hc hy => hm1 c y (hold c y hc hy) (hoff c (by omega)), by omega⟩
          · have e1 : ints (ins ++ [(i : Int)]) = ints ins ++ [.int .i64 i] := by simp [ints]
            have e2 : (ins ++ [(i : Int)]).length = ins.length + 1 := by simp
            rw [e1, e2]; exact o6'
          · rcases hb1 b hb with h | h
            · omega
            · exact hF.n6 b h
        · simp only [if_neg hlt2] at hR'
          simp only [hlt2, decide_false]
          have hwr : IntKind.i64.wrap ((D : Int) + 1) = ((D + 1 : Nat) : Int) := by rw [wrap_i64 (by omega)]; omega
          rw [hwr] at hR'
          simp -implicitDefEqProofs (disch := first | omega | (simp only [St.set_n, St.up_n, List.length_cons, List.length_nil]; omega)) only [go_sem, Nat.reduceAdd, Nat.reduceMul, Nat.reduceSub, Int.reduceAdd, Int.reduceMul, Int.reduceSub, Int.reduceNeg, Int.reduceToNat, q8]
          refine SemS.wp fun _ => ?_
          simp -implicitDefEqProofs (disch := first | omega | (simp only [St.set_n, St.up_n, List.length_cons, List.length_nil]; omega)) only [go_sem, Nat.reduceAdd, Nat.reduceMul, Nat.reduceSub, Int.reduceAdd, Int.reduceMul, Int.reduceSub, Int.reduceNeg, Int.reduceToNat, q9]
          exact hend _ _ ins outs L (D + 1) w6 w7 ⟨by simp -implicitDefEqProofs (disch := first | omega | (simp only [St.set_n, St.up_n, List.length_cons, List.length_nil]; omega)) only [go_sem, Nat.reduceAdd, Nat.reduceMul, Nat.reduceSub, Int.reduceAdd, Int.reduceMul, Int.reduceSub, Int.reduceNeg, Int.reduceToNat, q1], by simp -implicitDefEqProofs (disch := first | omega | (simp only [St.set_n, St.up_n, List.length_cons, List.length_nil]; omega)) only [go_sem, Nat.reduceAdd, Nat.reduceMul, Nat.reduceSub, Int.reduceAdd, Int.reduceMul, Int.reduceSub, Int.reduceNeg, Int.reduceToNat, q5], by simp -implicitDefEqProofs (disch := first | omega | (simp only [St.set_n, St.up_n, List.length_cons, List.length_nil]; omega)) only [go_sem, Nat.reduceAdd, Nat.reduceMul, Nat.reduceSub, Int.reduceAdd, Int.reduceMul, Int.reduceSub, Int.reduceNeg, Int.reduceToNat, q6], by simp -implicitDefEqProofs (disch := first | omega | (simp only [St.set_n, St.up_n, List.length_cons, List.length_nil]; omega)) only [go_sem, Nat.reduceAdd, Nat.reduceMul, Nat.reduceSub, Int.reduceAdd, Int.reduceMul, Int.reduceSub, Int.reduceNeg, Int.reduceToNat, q7], (by first | (simp -implicitDefEqProofs (disch := first | omega | (simp only [St.set_n, St.up_n, List.length_cons, List.length_nil]; omega)) only [go_sem, Nat.reduceAdd, Nat.reduceMul, Nat.reduceSub, Int.reduceAdd, Int.reduceMul, Int.reduceSub, Int.reduceNeg, Int.reduceToNat]; done) | (simp -implicitDefEqProofs (disch := first | omega | (simp only [St.set_n, St.up_n, List.length_cons, List.length_nil]; omega)) only [go_sem, Nat.reduceAdd, Nat.reduceMul, Nat.reduceSub, Int.reduceAdd, Int.reduceMul, Int.reduceSub, Int.reduceNeg, Int.reduceToNat]; rfl) | (simp -implicitDefEqProofs (disch := first | omega | (simp only [St.set_n, St.up_n, List.length_cons, List.length_nil]; omega)) only [go_sem, Nat.reduceAdd, Nat.reduceMul, Nat.reduceSub, Int.reduceAdd, Int.reduceMul, Int.reduceSub, Int.reduceNeg, Int.reduceToNat]; simp)), (by first | (simp -implicitDefEqProofs (disch := first | omega | (simp only [St.set_n, St.up_n, List.length_cons, List.length_nil]; omega)) only [go_sem, Nat.reduceAdd, Nat.reduceMul, Nat.reduceSub, Int.reduceAdd, Int.reduceMul, Int.reduceSub, Int.reduceNeg, Int.reduceToNat]; done) | (simp -implicitDefEqProofs (disch := first | omega | (simp only [St.set_n, St.up_n, List.length_cons, List.length_nil]; omega)) only [go_sem, Nat.reduceAdd, Nat.reduceMul, Nat.reduceSub, Int.reduceAdd, Int.reduceMul, Int.reduceSub, Int.reduceNeg, Int.reduceToNat]; rfl) | (simp -implicitDefEqProofs (disch := first | omega | (simp only [St.set_n, St.up_n, List.length_cons, List.length_nil]; omega)) only [go_sem, Nat.reduceAdd, Nat.reduceMul, Nat.reduceSub, Int.reduceAdd, Int.reduceMul, Int.reduceSub, Int.reduceNeg, Int.reduceToNat]; simp)), by simp -implicitDefEqProofs (disch := first | omega | (simp only [St.set_n, St.up_n, List.length_cons, List.length_nil]; omega)) only [go_sem, Nat.reduceAdd, Nat.reduceMul, Nat.reduceSub, Int.reduceAdd, Int.reduceMul, Int.reduceSub, Int.reduceNeg, Int.reduceToNat, hd]⟩ ⟨hR', heq, by omega, by omega, o6, o7, hF.d67, hF.n6, hF.n7, hold, hsn'⟩
      | false =>
        simp -implicitDefEqProofs (disch := first | omega | (simp only [St.set_n, St.up_n, List.length_cons, List.length_nil]; omega)) only [go_sem, Nat.reduceAdd, Nat.reduceMul, Nat.reduceSub, Int.reduceAdd, Int.reduceMul, Int.reduceSub, Int.reduceNeg, Int.reduceToNat, q5, q9]
        refine callF_wf (ring_get hF.ring (by omega) fun τ hR' hn' hk' hwτ => ?_)
        obtain ⟨o6, o7, hold, hsn'⟩ := hF.move (L' := L) (ins' := ins) (outs' := outs) (D' := D) hk hn' hk'
        cases L with
        | nil =>
          simp only [List.length_nil, if_true, List.tail_nil] at hR'
          have e5 : decide (¬ ([] : List Int).length = 0) = false := by simp
          rw [e5]
          simp -implicitDefEqProofs (disch := first | omega | (simp only [St.set_n, St.up_n, List.length_cons, List.length_nil]; omega)) only [go_sem, Nat.reduceAdd, Nat.reduceMul, Nat.reduceSub, Int.reduceAdd, Int.reduceMul, Int.reduceSub, Int.reduceNeg, Int.reduceToNat]
          refine SemS.wp fun _ => ?_
          simp -implicitDefEqProofs (disch := first | omega | (simp only [St.set_n, St.up_n, List.length_cons, List.length_nil]; omega)) only [go_sem, Nat.reduceAdd, Nat.reduceMul, Nat.reduceSub, Int.reduceAdd, Int.reduceMul, Int.reduceSub, Int.reduceNeg, Int.reduceToNat, q9]
          exact hend _ _ ins outs [] D w6 w7 ⟨by simp -implicitDefEqProofs (disch := first | omega | (simp only [St.set_n, St.up_n, List.length_cons, List.length_nil]; omega)) only [go_sem, Nat.reduceAdd, Nat.reduceMul, Nat.reduceSub, Int.reduceAdd, Int.reduceMul, Int.reduceSub, Int.reduceNeg, Int.reduceToNat, q1], by simp -implicitDefEqProofs (disch := first | omega | (simp only [St.set_n, St.up_n, List.length_cons, List.length_nil]; omega)) only [go_sem, Nat.reduceAdd, Nat.reduceMul, Nat.reduceSub, Int.reduceAdd, Int.reduceMul, Int.reduceSub, Int.reduceNeg, Int.reduceToNat, q5], by simp -implicitDefEqProofs (disch := first | omega | (simp only [St.set_n, St.up_n, List.length_cons, List.length_nil]; omega)) only [go_sem, Nat.reduceAdd, Nat.reduceMul, Nat.reduceSub, Int.reduceAdd, Int.reduceMul, Int.reduceSub, Int.reduceNeg, Int.reduceToNat, q6], by simp -implicitDefEqProofs (disch := first | omega | (simp only [St.set_n, St.up_n, List.length_cons, List.length_nil]; omega)) only [go_sem, Nat.reduceAdd, Nat.reduceMul, Nat.reduceSub, Int.reduceAdd, Int.reduceMul, Int.reduceSub, Int.reduceNeg, Int.reduceToNat, q7], by simp -implicitDefEqProofs (disch := first | omega | (simp only [St.set_n, St.up_n, List.length_cons, List.length_nil]; omega)) only [go_sem, Nat.reduceAdd, Nat.reduceMul, Nat.reduceSub, Int.reduceAdd, Int.reduceMul, Int.reduceSub, Int.reduceNeg, Int.reduceToNat, q8], (by first | (simp -implicitDefEqProofs (disch := first | omega | (simp only [St.set_n, St.up_n, List.length_cons, List.length_nil]; omega)) only [go_sem, Nat.reduceAdd, Nat.reduceMul, Nat.reduceSub, Int.reduceAdd, Int.reduceMul, Int.reduceSub, Int.reduceNeg, Int.reduceToNat]; done) | (simp -implicitDefEqProofs (disch := first | omega | (simp only [St.set_n, St.up_n, List.length_cons, List.length_nil]; omega)) only [go_sem, Nat.reduceAdd, Nat.reduceMul, Nat.reduceSub, Int.reduceAdd, Int.reduceMul, Int.reduceSub, Int.reduceNeg, Int.reduceToNat]; rfl) | (simp -implicitDefEqProofs (disch := first | omega | (simp only [St.set_n, St.up_n, List.length_cons, List.length_nil]; omega)) only [go_sem, Nat.reduceAdd, Nat.reduceMul, Nat.reduceSub, Int.reduceAdd, Int.reduceMul, Int.reduceSub, Int.reduceNeg, Int.reduceToNat]; simp)), by simp -implicitDefEqProofs (disch := first | omega | (simp only [St.set_n, St.up_n, List.length_cons, List.length_nil]; omega)) only [go_sem, Nat.reduceAdd, Nat.reduceMul, Nat.reduceSub, Int.reduceAdd, Int.reduceMul, Int.reduceSub, Int.reduceNeg, Int.reduceToNat, hd]⟩ ⟨hR', heq, by omega, by omega, o6, o7, hF.d67, hF.n6, hF.n7, hold, hsn'⟩
        | cons y L =>
          simp only [List.length_cons, List.tail_cons, Nat.add_eq_zero_iff, Nat.one_ne_zero, and_false, if_false] at hR'
          have e5 : decide (¬ (y :: L).length = 0) = true := by simp
          have e6 : (y :: L).getD 0 0 = y := rfl
          rw [e5, e6]
          simp -implicitDefEqProofs (disch := first | omega | (simp only [St.set_n, St.up_n, List.length_cons, List.length_nil]; omega)) only [go_sem, Nat.reduceAdd, Nat.reduceMul, Nat.reduceSub, Int.reduceAdd, Int.reduceMul, Int.reduceSub, Int.reduceNeg, Int.reduceToNat, q7]
          refine appF_one (sz := 1) (bts := 8) (cs := ints outs) (ys := [.int .i64 y]) hwτ o7 se43 kd43 zr3 rfl (by omega) rfl rfl (by omega) fun A' C' t1 hC' o7' hw1 hk1 hm1 hb1 hn1 => ?_
          obtain ⟨o6', d76'⟩ := hk1 _ _ _ _ _ o6 hF.d67.symm
          simp -implicitDefEqProofs (disch := first | omega | (simp only [St.set_n, St.up_n, List.length_cons, List.length_nil]; omega)) only [go_sem, Nat.reduceAdd, Nat.reduceMul, Nat.reduceSub, Int.reduceAdd, Int.reduceMul, Int.reduceSub, Int.reduceNeg, Int.reduceToNat]
          refine SemS.wp fun _ => ?_
          simp -implicitDefEqProofs (disch := first | omega | (simp only [St.set_n, St.up_n, List.length_cons, List.length_nil]; omega)) only [go_sem, Nat.reduceAdd, Nat.reduceMul, Nat.reduceSub, Int.reduceAdd, Int.reduceMul, Int.reduceSub, Int.reduceNeg, Int.reduceToNat, q9]
          have hoff : ∀ c, c < k + 2 → blk w7 ≠ some c := fun c hc e => by have := hF.n7 c e; omega
          have e2 : (outs ++ [y]).length = outs.length + 1 := by simp
          refine hend _ _ ins (outs ++ [y]) L D w6 _ ⟨by simp -implicitDefEqProofs (disch := first | omega | (simp only [St.set_n, St.up_n, List.length_cons, List.length_nil]; omega)) only [go_sem, Nat.reduceAdd, Nat.reduceMul, Nat.reduceSub, Int.reduceAdd, Int.reduceMul, Int.reduceSub, Int.reduceNeg, Int.reduceToNat, q1], by simp -implicitDefEqProofs (disch := first | omega | (simp only [St.set_n, St.up_n, List.length_cons, List.length_nil]; omega)) only [go_sem, Nat.reduceAdd, Nat.reduceMul, Nat.reduceSub, Int.reduceAdd, Int.reduceMul, Int.reduceSub, Int.reduceNeg, Int.reduceToNat, q5], by simp -implicitDefEqProofs (disch := first | omega | (simp only [St.set_n, St.up_n, List.length_cons, List.length_nil]; omega)) only [go_sem, Nat.reduceAdd, Nat.reduceMul, Nat.reduceSub, Int.reduceAdd, Int.reduceMul, Int.reduceSub, Int.reduceNeg, Int.reduceToNat, q6], by simp -implicitDefEqProofs (disch := first | omega | (simp only [St.set_n, St.up_n, List.length_cons, List.length_nil]; omega)) only [go_sem, Nat.reduceAdd, Nat.reduceMul, Nat.reduceSub, Int.reduceAdd, Int.reduceMul, Int.reduceSub, Int.reduceNeg, Int.reduceToNat], by simp -implicitDefEqProofs (disch := first | omega | (simp only [St.set_n, St.up_n, List.length_cons, List.length_nil]; omega)) only [go_sem, Nat.reduceAdd, Nat.reduceMul, Nat.reduceSub, Int.reduceAdd, Int.reduceMul, Int.reduceSub, Int.reduceNeg, Int.reduceToNat, q8], (by first | (simp -implicitDefEqProofs (disch := first | omega | (simp only [St.set_n, St.up_n, List.length_cons, List.length_nil]; omega)) only [go_sem, Nat.reduceAdd, Nat.reduceMul, Nat.reduceSub, Int.reduceAdd, Int.reduceMul, Int.reduceSub, Int.reduceNeg, Int.reduceToNat]; done) | (simp -implicitDefEqProofs (disch := first | omega | (simp only [St.set_n, St.up_n, List.length_cons, List.length_nil]; omega)) only [go_sem, Nat.reduceAdd, Nat.reduceMul, Nat.reduceSub, Int.reduceAdd, Int.reduceMul, Int.reduceSub, Int.reduceNeg, Int.reduceToNat]; rfl) | (simp -implicitDefEqProofs (disch := first | omega | (simp only [St.set_n, St.up_n, List.length_cons, List.length_nil]; omega)) only [go_sem, Nat.reduceAdd, Nat.reduceMul, Nat.reduceSub, Int.reduceAdd, Int.reduceMul, Int.reduceSub, Int.reduceNeg, Int.reduceToNat]; simp)), by simp -implicitDefEqProofs (disch := first | omega | (simp only [St.set_n, St.up_n, List.length_cons, List.length_nil]; omega)) only [go_sem, Nat.reduceAdd, Nat.reduceMul, Nat.reduceSub, Int.reduceAdd, Int.reduceMul, Int.reduceSub, Int.reduceNeg, Int.reduceToNat, hd]⟩ ⟨by rw [e2]; exact isRing_keep hR' fun c y hc hy => hm1 c y hy (hoff c (by omega)), by rw [heq]; simp, by omega, by omega, o6', ?_, d76'.symm, hF.n6, fun b hb => ?_, fun c y hc hy => hm1 c y (hold c y hc hy) (hoff c (by omega)), by omega⟩
          · have e1 : ints (outs ++ [y]) = ints outs ++ [.int .i64 y] := by simp [ints]
            rw [e1, e2]; exact o7'
          · rcases hb1 b hb with h | h
            · omega
            · exact hF.n7 b h
    · refine SemS.wp fun _ => ?_
      simp -implicitDefEqProofs (disch := first | omega | (simp only [St.set_n, St.up_n, List.length_cons, List.length_nil]; omega)) only [go_sem, Nat.reduceAdd, Nat.reduceMul, Nat.reduceSub, Int.reduceAdd, Int.reduceMul, Int.reduceSub, Int.reduceNeg, Int.reduceToNat, q1, q9, hlt]
      simp -implicitDefEqProofs (disch := first | omega | (simp only [St.set_n, St.up_n, List.length_cons, List.length_nil]; omega)) only [go_sem, Nat.reduceAdd, Nat.reduceMul, Nat.reduceSub, Int.reduceAdd, Int.reduceMul, Int.reduceSub, Int.reduceNeg, Int.reduceToNat, q5, q7]
      have hsn := hF.sn
      refine callF_wf (ring_list hF.ring fun wl τ1 hol hbl hkl hnl hwl => ?_)
      obtain ⟨Al, Cl, rfl, _⟩ := hol.is
      simp -implicitDefEqProofs (disch := first | omega | (simp only [St.set_n, St.up_n, List.length_cons, List.length_nil]; omega)) only [go_sem, Nat.reduceAdd, Nat.reduceMul, Nat.reduceSub, Int.reduceAdd, Int.reduceMul, Int.reduceSub, Int.reduceNeg, Int.reduceToNat]
      have k1 : ∀ c x, s.m c = some x → τ1.m c = some x := fun c x hx => hkl c x (hws.2 _ _ hx).2 hx
      have o7 : Own τ1 3 1 (ints outs) outs.length w7 := hF.o7.keepR fun b o _ ho => k1 b _ ho
      have o6 : Own τ1 3 1 (ints ins) ins.length w6 := hF.o6.keepR fun b o _ ho => k1 b _ ho
      refine app_own2 (el := 3) (s := 1) (bts := 8) (n := outs.length) (m := L.length) (cs := ints outs) (ys := ints L) se43 (.inr kd43) zr3 rfl (by omega) o7 hol.fc (by simp [ints]) (by simp [ints, Value.oneCell']) (by omega) fun v' σ' ha hb' hc' hn' => ?_
      have hoff : ∀ c x, τ1.m c = some x → blk w7 ≠ some c → σ'.m c = some x := fun c x hx hw => by
        have := (hwl.2 _ _ hx).2
        rw [hc' c fun e => ?_]
        · exact hx
        · rcases hb' c e with ⟨h, _⟩ | h
          · omega
          · exact hw h
      have hw7 : ∀ c, c < k + 2 → blk w7 ≠ some c := fun c hc e => by have := hF.n7 c e; omega
      have hR2 : IsRing σ' (k + 1) k n L outs.length D := isRing_keep hF.ring fun c y hc hy => hoff c y (k1 c y hy) (hw7 c (by omega))
      have o6' : Own σ' 3 1 (ints ins) ins.length w6 := o6.keepR fun b o hb ho => hoff b _ ho fun e => hF.d67 b hb e
      simp -implicitDefEqProofs (disch := first | omega | (simp only [St.set_n, St.up_n, List.length_cons, List.length_nil]; omega)) only [go_sem, Nat.reduceAdd, Nat.reduceMul, Nat.reduceSub, Int.reduceAdd, Int.reduceMul, Int.reduceSub, Int.reduceNeg, Int.reduceToNat, q6]
      have ha' : Own σ' 3 1 (ints (outs ++ L)) (outs ++ L).length v' := by rw [ints_append, List.length_append]; exact ha
      refine callF_of (same_ints (by simp; omega) ha' o6' ?_)
      rw [show decide (outs ++ L = ins) = true by simp [heq]]
      simp -implicitDefEqProofs (disch := first | omega | (simp only [St.set_n, St.up_n, List.length_cons, List.length_nil]; omega)) only [go_sem, Nat.reduceAdd, Nat.reduceMul, Nat.reduceSub, Int.reduceAdd, Int.reduceMul, Int.reduceSub, Int.reduceNeg, Int.reduceToNat, q5]
      refine callF_of (ring_drops hR2 ?_)
      simp -implicitDefEqProofs (disch := first | omega | (simp only [St.set_n, St.up_n, List.length_cons, List.length_nil]; omega)) only [go_sem, Nat.reduceAdd, Nat.reduceMul, Nat.reduceSub, Int.reduceAdd, Int.reduceMul, Int.reduceSub, Int.reduceNeg, Int.reduceToNat, q5, q8]
      refine callF_of (ring_len hR2 ?_)
      simp -implicitDefEqProofs (disch := first | omega | (simp only [St.set_n, St.up_n, List.length_cons, List.length_nil]; omega)) only [go_sem, Nat.reduceAdd, Nat.reduceMul, Nat.reduceSub, Int.reduceAdd, Int.reduceMul, Int.reduceSub, Int.reduceNeg, Int.reduceToNat, q5, q8]
      refine callF_of (ring_cap hR2 ?_)
      have hle : (L.length : Int) ≤ n := by omega
      simp -implicitDefEqProofs (disch := first | omega | (simp only [St.set_n, St.up_n, List.length_cons, List.length_nil]; omega)) only [go_sem, Nat.reduceAdd, Nat.reduceMul, Nat.reduceSub, Int.reduceAdd, Int.reduceMul, Int.reduceSub, Int.reduceNeg, Int.reduceToNat, hle, hd]
      refine ⟨_, To.same (fun d y h2 h3 => ?_) hwf, hK _ (by omega)⟩
      exact hoff d y (k1 d y (hF.old d y h2 h3)) (hw7 d (by omega))
end
end Go.Proofs.Ytbjgoajdfdonfaa
