/- 'HistPlays': the walk. -/
import Derived.Test.YtgcojbgkenndhaaHistG
namespace Go.Proofs.Ytgcojbgkenndhaa
set_option pp.deepTerms false
set_option pp.deepTerms.threshold 8
set_option linter.unusedSimpArgs false
set_option linter.unusedVariables false
set_option maxRecDepth 100000
open Go Go.RowKit
section
variable {B : World} {σ τ : St} {K : Value → St → Prop}
structure Ev where
  bg : Bool
  th : Int
  id : Int
  op : COp
  an : CAn
def REv (x : Ev) (cs : List Value) : Prop := cs = [.bool x.bg, .int .i64 x.th, .int .i64 x.id] ++ (fOp x.op ++ fAn x.an) ∧ -9223372036854775808 ≤ x.id
theorem ev_cells {b o i : Nat} {x : Ev} {cs : List Value} (h : ∀ (j : Nat) (v : Value), cs[j]? = some v → B.cell? ⟨b, o + i * 14 + j, none⟩ = some v) (hcs : cs = [.bool x.bg, .int .i64 x.th, .int .i64 x.id] ++ (fOp x.op ++ fAn x.an)) :
    B.cell? ⟨b, o + i * 14, none⟩ = some (.bool x.bg) ∧ B.cell? ⟨b, o + i * 14 + 1, none⟩ = some (.int .i64 x.th) ∧ B.cell? ⟨b, o + i * 14 + 2, none⟩ = some (.int .i64 x.id) ∧ B.cell? ⟨b, o + i * 14 + 3, none⟩ = some (.int .i64 x.op.kind) ∧ B.cell? ⟨b, o + i * 14 + 3 + 1, none⟩ = some (.int .i64 x.op.sub) ∧ B.cell? ⟨b, o + i * 14 + 3 + 2, none⟩ = some (.string x.op.text) ∧ B.cell? ⟨b, o + i * 14 + 3 + 3, none⟩ = some (.string x.op.pay) ∧ B.cell? ⟨b, o + i * 14 + 3 + 4, none⟩ = some (.bool x.op.keep) ∧ B.cell? ⟨b, o + i * 14 + 8, none⟩ = some (.int .i64 x.an.err) ∧ B.cell? ⟨b, o + i * 14 + 8 + 1, none⟩ = some (.int .i64 x.an.a) ∧ B.cell? ⟨b, o + i * 14 + 8 + 2, none⟩ = some (.int .i64 x.an.b) ∧ B.cell? ⟨b, o + i * 14 + 8 + 3, none⟩ = some (.string x.an.topic) ∧ B.cell? ⟨b, o + i * 14 + 8 + 4, none⟩ = some (.string x.an.pay) ∧ B.cell? ⟨b, o + i * 14 + 8 + 5, none⟩ = some (.bool x.an.kept) := by
  subst hcs
  exact ⟨h 0 _ rfl, h 1 _ rfl, h 2 _ rfl, h 3 _ rfl, h 4 _ rfl, h 5 _ rfl, h 6 _ rfl, h 7 _ rfl, h 8 _ rfl, h 9 _ rfl, h 10 _ rfl, h 11 _ rfl, h 12 _ rfl, h 13 _ rfl⟩
structure Hm (a : Option Addr) (N cap q p : Nat) (e : Fr) : Prop where
  v0 : e.v 0 = .slice a N cap
  v3 : e.v 3 = .pointer (some ⟨q, 0, none⟩)
  v4 : e.v 4 = .pointer (some ⟨p, 0, none⟩)
  d : e.d = []
structure Hi (i : Nat) (e : Fr) : Prop where
  v5 : e.v 5 = .int .i64 i
structure Hs (σ : St) (q p : Nat) (S : LS) (sv : Value) (s : St) : Prop where
  lg : s.m q = some (.comp (LogR S q))
  rl : RlO s p S sv
  nb : ∀ b, blk sv = some b → σ.n ≤ b ∧ b ≠ q
  q1 : σ.n ≤ q ∧ σ.n ≤ p ∧ q ≠ p ∧ q < s.n
  old : ∀ c x, c < σ.n → σ.m c = some x → s.m c = some x
theorem RlO.keep {s s1 : St} {p : Nat} {S : LS} {sv : Value} (h : RlO s p S sv) (hk : ∀ c x, c = p ∨ blk sv = some c → s.m c = some x → s1.m c = some x) : RlO s1 p S sv :=
  ⟨hk _ _ (.inl rfl) h.root, h.own.keepR fun b o hb ho => hk _ _ (.inr hb) ho, h.off⟩
theorem Hs.keep {q p : Nat} {S : LS} {sv : Value} {s s1 : St} (h : Hs σ q p S sv s) (hk : ∀ c x, s.m c = some x → s1.m c = some x) (hn : s.n ≤ s1.n) : Hs σ q p S sv s1 :=
  ⟨hk _ _ h.lg, h.rl.keep fun c x _ hx => hk c x hx, h.nb, by have := h.q1; omega, fun c x hc hx => hk _ _ (h.old c x hc hx)⟩
structure Hj (n i : Nat) (t : Bool) (e : Fr) : Prop where
  v6 : e.v 6 = .bool t
  v7 : e.v 7 = .int .i64 i
structure Hw (v : Value) (i : Nat) (e : Fr) : Prop where
  v8 : e.v 8 = v
  v10 : e.v 10 = .int .i64 i
set_option maxHeartbeats 8000000 in
theorem plays07 {l : List Ev} {v : Value} (hl : SlR B 14 REv l v) (hK : ∀ k, σ.n ≤ k → K (.bool true) (σ.up k)) : Fn Try.prog B 6 #[v] σ K := by
  obtain ⟨a, cap, rfl, hlc, hcm, hnil, hat⟩ := hl
  refine Fn.of' is6 (by simp) fun hwf => ?_
  have hB := hwf.1
  simp only [b6, Try.f6, Option.getD_some]
  simp -implicitDefEqProofs (disch := first | omega | (simp only [St.set_n, St.up_n, List.length_cons, List.length_nil]; omega)) only [go_sem, Nat.reduceAdd, Nat.reduceMul, Nat.reduceSub, Int.reduceAdd, Int.reduceMul, Int.reduceSub, Int.reduceNeg, Int.reduceToNat]
  refine callF_of (awake07 fun k hk => ?_)
  simp -implicitDefEqProofs (disch := first | omega | (simp only [St.set_n, St.up_n, List.length_cons, List.length_nil]; omega)) only [go_sem, Nat.reduceAdd, Nat.reduceMul, Nat.reduceSub, Int.reduceAdd, Int.reduceMul, Int.reduceSub, Int.reduceNeg, Int.reduceToNat]
  by_cases h300 : (300 : Int) < l.length
  · simp -implicitDefEqProofs (disch := first | omega | (simp only [St.set_n, St.up_n, List.length_cons, List.length_nil]; omega)) only [go_sem, Nat.reduceAdd, Nat.reduceMul, Nat.reduceSub, Int.reduceAdd, Int.reduceMul, Int.reduceSub, Int.reduceNeg, Int.reduceToNat, h300]
    exact ⟨_, To.same (fun d y h2 h3 => by simp -implicitDefEqProofs (disch := first | omega | (simp only [St.set_n, St.up_n, List.length_cons, List.length_nil]; omega)) only [go_sem, Nat.reduceAdd, Nat.reduceMul, Nat.reduceSub, Int.reduceAdd, Int.reduceMul, Int.reduceSub, Int.reduceNeg, Int.reduceToNat, h3]) hwf, hK _ (by simp only [St.up_n]; omega)⟩
  simp -implicitDefEqProofs (disch := first | omega | (simp only [St.set_n, St.up_n, List.length_cons, List.length_nil]; omega)) only [go_sem, Nat.reduceAdd, Nat.reduceMul, Nat.reduceSub, Int.reduceAdd, Int.reduceMul, Int.reduceSub, Int.reduceNeg, Int.reduceToNat, h300]
  refine callF_of (log_new fun k1 hk1 => ?_)
  simp only [St.up_n] at hk1
  simp -implicitDefEqProofs (disch := first | omega | (simp only [St.set_n, St.up_n, List.length_cons, List.length_nil]; omega)) only [go_sem, Nat.reduceAdd, Nat.reduceMul, Nat.reduceSub, Int.reduceAdd, Int.reduceMul, Int.reduceSub, Int.reduceNeg, Int.reduceToNat]
  have hH : Hs σ k k1 ⟨[], 0⟩ (.slice none 0 0) (((σ.set k (.comp (LogR ⟨[], 0⟩ k))).set k1 (.raw (.cells #[.slice none 0 0, .int .i64 0] 52 (0, 0)))).up (k1 + 1)) :=
    ⟨by simp -implicitDefEqProofs (disch := first | omega | (simp only [St.set_n, St.up_n, List.length_cons, List.length_nil]; omega)) only [go_sem, Nat.reduceAdd, Nat.reduceMul, Nat.reduceSub, Int.reduceAdd, Int.reduceMul, Int.reduceSub, Int.reduceNeg, Int.reduceToNat], ⟨by simp -implicitDefEqProofs (disch := first | omega | (simp only [St.set_n, St.up_n, List.length_cons, List.length_nil]; omega)) only [go_sem, Nat.reduceAdd, Nat.reduceMul, Nat.reduceSub, Int.reduceAdd, Int.reduceMul, Int.reduceSub, Int.reduceNeg, Int.reduceToNat]; rfl, Own.nil, by simp [blk]⟩, fun b hb => (by cases hb), by simp only [St.up_n]; omega, fun c x hc hx => by simp -implicitDefEqProofs (disch := first | omega | (simp only [St.set_n, St.up_n, List.length_cons, List.length_nil]; omega)) only [go_sem, Nat.reduceAdd, Nat.reduceMul, Nat.reduceSub, Int.reduceAdd, Int.reduceMul, Int.reduceSub, Int.reduceNeg, Int.reduceToNat, hx]⟩
  generalize ((σ.set k (.comp (LogR ⟨[], 0⟩ k))).set k1 (.raw (.cells #[.slice none 0 0, .int .i64 0] 52 (0, 0)))).up (k1 + 1) = s0 at hH ⊢
  refine loop_rule (fun m e s => ∃ (i : Nat) (S : LS) (sv : Value), m = l.length - i ∧ i ≤ l.length ∧ Hm a l.length cap k k1 e ∧ Hi i e ∧ Hs σ k k1 S sv s ∧ S.now ≤ i ∧ S.l.length ≤ i) l.length ?_ ?_
  · exact ⟨0, ⟨[], 0⟩, _, by omega, by omega, ⟨by simp -implicitDefEqProofs (disch := first | omega | (simp only [St.set_n, St.up_n, List.length_cons, List.length_nil]; omega)) only [go_sem, Nat.reduceAdd, Nat.reduceMul, Nat.reduceSub, Int.reduceAdd, Int.reduceMul, Int.reduceSub, Int.reduceNeg, Int.reduceToNat], by simp -implicitDefEqProofs (disch := first | omega | (simp only [St.set_n, St.up_n, List.length_cons, List.length_nil]; omega)) only [go_sem, Nat.reduceAdd, Nat.reduceMul, Nat.reduceSub, Int.reduceAdd, Int.reduceMul, Int.reduceSub, Int.reduceNeg, Int.reduceToNat], by simp -implicitDefEqProofs (disch := first | omega | (simp only [St.set_n, St.up_n, List.length_cons, List.length_nil]; omega)) only [go_sem, Nat.reduceAdd, Nat.reduceMul, Nat.reduceSub, Int.reduceAdd, Int.reduceMul, Int.reduceSub, Int.reduceNeg, Int.reduceToNat], by simp -implicitDefEqProofs (disch := first | omega | (simp only [St.set_n, St.up_n, List.length_cons, List.length_nil]; omega)) only [go_sem, Nat.reduceAdd, Nat.reduceMul, Nat.reduceSub, Int.reduceAdd, Int.reduceMul, Int.reduceSub, Int.reduceNeg, Int.reduceToNat]⟩, ⟨by simp -implicitDefEqProofs (disch := first | omega | (simp only [St.set_n, St.up_n, List.length_cons, List.length_nil]; omega)) only [go_sem, Nat.reduceAdd, Nat.reduceMul, Nat.reduceSub, Int.reduceAdd, Int.reduceMul, Int.reduceSub, Int.reduceNeg, Int.reduceToNat]; rfl⟩, hH, Nat.le_refl _, Nat.le_refl _⟩
  clear hH
  rintro m e s hws ⟨i, S, sv, hm, hi, ⟨q0, q3, q4, hd⟩, ⟨q5⟩, hH, hnow, hll⟩
  have hq1 := hH.q1
  have hlg := hH.lg
  have hrl := hH.rl
  by_cases hlt : (i : Int) < l.length
  · obtain ⟨x, hx⟩ : ∃ x, l[i]? = some x := ⟨l[i]'(by omega), List.getElem?_eq_getElem (by omega)⟩
    obtain ⟨b, o, cs, rfl, hb, ⟨hcs, hid⟩, hsz, hcell⟩ := hat i x hx
    have hec := ev_cells hcell hcs
    have hsb : s.m b = none := wfLow' hws hb
    cases hbg : x.bg with
    | true =>
      rw [hbg] at hec
      simp -implicitDefEqProofs (disch := first | omega | (simp only [St.set_n, St.up_n, List.length_cons, List.length_nil]; omega)) only [go_sem, Nat.reduceAdd, Nat.reduceMul, Nat.reduceSub, Int.reduceAdd, Int.reduceMul, Int.reduceSub, Int.reduceNeg, Int.reduceToNat, q0, q3, q4, q5, hlt, hsb, hb, hec]
      refine effD_plan [0, 0, 0, 6, 14, 30, 0, 0, 192, 448, 960, 2047, 0, 0, 0, 24576, 57344, 122880, 0, 0, 786432, 1835008, 3932160, 8388607, 16777215] [0, 1, 2, 3, 4, 5, 6, 7, 8, 9, 10, 12, 13, 14, 15, 16, 17, 18, 19, 20, 21, 22, 24] (.eag 0 (.eag 1 (.eag 2 (.eag 3 (.eag 4 (.eagq 5 (.eag 6 (.eag 7 (.eag 8 (.eag 9 (.eagq 10 (.eag 12 (.eag 13 (.eag 14 (.eag 15 (.eag 16 (.eagq 17 (.eag 18 (.eag 19 (.eag 20 (.eag 21 (.eagq 22 (.alt 11 [17, 22] (.alt 23 [] (.eag 24 .fin) .stop) .stop))))))))))))))))))))))) (by kernel_rfl) ?_
      simp -implicitDefEqProofs (disch := first | omega | (simp only [St.set_n, St.up_n, List.length_cons, List.length_nil]; omega)) only [go_sem, Nat.reduceAdd, Nat.reduceMul, Nat.reduceSub, Int.reduceAdd, Int.reduceMul, Int.reduceSub, Int.reduceNeg, Int.reduceToNat, q0, q3, q4, q5, hlt, hsb, hb, hec]
      refine callF_of (log_begin (op := x.op) hlg (by omega) (by omega) fun k2 hk2 => ?_)
      have hk9 : ∀ c x', c ≠ k → s.m c = some x' → ((s.set k (.comp (LogR (S.begin x.th x.op) k))).up k2).m c = some x' := fun c x' hc hx => by simp -implicitDefEqProofs (disch := first | omega | (simp only [St.set_n, St.up_n, List.length_cons, List.length_nil]; omega)) only [go_sem, Nat.reduceAdd, Nat.reduceMul, Nat.reduceSub, Int.reduceAdd, Int.reduceMul, Int.reduceSub, Int.reduceNeg, Int.reduceToNat, hx]
      have hrl2 : RlO ((s.set k (.comp (LogR (S.begin x.th x.op) k))).up k2) k1 S sv := hrl.keep fun c x' hc hx => hk9 c x' (by
        rcases hc with h | h
        · omega
        · exact (hH.nb c h).2) hx
      simp -implicitDefEqProofs (disch := first | omega | (simp only [St.set_n, St.up_n, List.length_cons, List.length_nil]; omega)) only [go_sem, Nat.reduceAdd, Nat.reduceMul, Nat.reduceSub, Int.reduceAdd, Int.reduceMul, Int.reduceSub, Int.reduceNeg, Int.reduceToNat, q0, q3, q4, q5, hlt, hsb, hb, hec]
      refine callF_of (rl_begin (op := x.op) hrl2 (by omega) (by omega) fun sv' s3 hrl3 hk3 hnb3 hn3 => ?_)
      simp -implicitDefEqProofs (disch := first | omega | (simp only [St.set_n, St.up_n, List.length_cons, List.length_nil]; omega)) only [go_sem, Nat.reduceAdd, Nat.reduceMul, Nat.reduceSub, Int.reduceAdd, Int.reduceMul, Int.reduceSub, Int.reduceNeg, Int.reduceToNat, q5]
      have hn3' : k2 ≤ s3.n := hn3
      have hskn : blk sv ≠ some k := fun e => (hH.nb k e).2 rfl
      refine ⟨l.length - (i + 1), by omega, i + 1, S.begin x.th x.op, sv', rfl, by omega, ⟨by simp -implicitDefEqProofs (disch := first | omega | (simp only [St.set_n, St.up_n, List.length_cons, List.length_nil]; omega)) only [go_sem, Nat.reduceAdd, Nat.reduceMul, Nat.reduceSub, Int.reduceAdd, Int.reduceMul, Int.reduceSub, Int.reduceNeg, Int.reduceToNat, q0], by simp -implicitDefEqProofs (disch := first | omega | (simp only [St.set_n, St.up_n, List.length_cons, List.length_nil]; omega)) only [go_sem, Nat.reduceAdd, Nat.reduceMul, Nat.reduceSub, Int.reduceAdd, Int.reduceMul, Int.reduceSub, Int.reduceNeg, Int.reduceToNat, q3], by simp -implicitDefEqProofs (disch := first | omega | (simp only [St.set_n, St.up_n, List.length_cons, List.length_nil]; omega)) only [go_sem, Nat.reduceAdd, Nat.reduceMul, Nat.reduceSub, Int.reduceAdd, Int.reduceMul, Int.reduceSub, Int.reduceNeg, Int.reduceToNat, q4], by simp -implicitDefEqProofs (disch := first | omega | (simp only [St.set_n, St.up_n, List.length_cons, List.length_nil]; omega)) only [go_sem, Nat.reduceAdd, Nat.reduceMul, Nat.reduceSub, Int.reduceAdd, Int.reduceMul, Int.reduceSub, Int.reduceNeg, Int.reduceToNat, hd]⟩, ⟨by simp -implicitDefEqProofs (disch := first | omega | (simp only [St.set_n, St.up_n, List.length_cons, List.length_nil]; omega)) only [go_sem, Nat.reduceAdd, Nat.reduceMul, Nat.reduceSub, Int.reduceAdd, Int.reduceMul, Int.reduceSub, Int.reduceNeg, Int.reduceToNat]; rfl⟩, ⟨hk3 k _ (by omega) hskn (by simp -implicitDefEqProofs (disch := first | omega | (simp only [St.set_n, St.up_n, List.length_cons, List.length_nil]; omega)) only [go_sem, Nat.reduceAdd, Nat.reduceMul, Nat.reduceSub, Int.reduceAdd, Int.reduceMul, Int.reduceSub, Int.reduceNeg, Int.reduceToNat]), hrl3, fun b hb => ?_, by omega, fun c x' hc hx => hk3 c x' (by omega) (fun e => by have := (hH.nb c e).1; omega) (hk9 c x' (by omega) (hH.old c x' hc hx))⟩, by simp only [LS.begin]; omega, by simp [LS.begin]; omega⟩
      rcases hnb3 b hb with h | h
      · have : k2 ≤ b := h
        omega
      · exact hH.nb b h
    | false =>
      rw [hbg] at hec
      simp -implicitDefEqProofs (disch := first | omega | (simp only [St.set_n, St.up_n, List.length_cons, List.length_nil]; omega)) only [go_sem, Nat.reduceAdd, Nat.reduceMul, Nat.reduceSub, Int.reduceAdd, Int.reduceMul, Int.reduceSub, Int.reduceNeg, Int.reduceToNat, q0, q3, q4, q5, hlt, hsb, hb, hec]
      refine effD_plan [0, 0, 0, 6, 14, 30, 0, 0, 192, 448, 960, 2047, 0, 0, 0, 24576, 57344, 122880, 0, 0, 786432, 1835008, 3932160, 8388607, 16777215] [0, 1, 2, 3, 4, 5, 6, 7, 8, 9, 10, 12, 13, 14, 15, 16, 17, 18, 19, 20, 21, 22, 24] (.eag 0 (.eag 1 (.eag 2 (.eag 3 (.eag 4 (.eagq 5 (.eag 6 (.eag 7 (.eag 8 (.eag 9 (.eagq 10 (.eag 12 (.eag 13 (.eag 14 (.eag 15 (.eag 16 (.eagq 17 (.eag 18 (.eag 19 (.eag 20 (.eag 21 (.eagq 22 (.alt 11 [17, 22] (.alt 23 [] (.eag 24 .fin) .stop) .stop))))))))))))))))))))))) (by kernel_rfl) ?_
      simp -implicitDefEqProofs (disch := first | omega | (simp only [St.set_n, St.up_n, List.length_cons, List.length_nil]; omega)) only [go_sem, Nat.reduceAdd, Nat.reduceMul, Nat.reduceSub, Int.reduceAdd, Int.reduceMul, Int.reduceSub, Int.reduceNeg, Int.reduceToNat, q0, q3, q4, q5, hlt, hsb, hb, hec]
      by_cases hbad : Bad S.l x.id
      · refine callF_of (log_end_no (a := x.an) hlg (by omega) hbad hid fun k2 hk2 => ?_)
        simp -implicitDefEqProofs (disch := first | omega | (simp only [St.set_n, St.up_n, List.length_cons, List.length_nil]; omega)) only [go_sem, Nat.reduceAdd, Nat.reduceMul, Nat.reduceSub, Int.reduceAdd, Int.reduceMul, Int.reduceSub, Int.reduceNeg, Int.reduceToNat, q0, q3, q4, q5, hlt, hsb, hb, hec]
        refine callF_of (rl_end_no (a := x.an) (hH.keep (s1 := s.up k2) (fun c x hx => hx) hk2).rl (by omega) hbad fun k3 hk3 => ?_)
        simp only [St.up_n] at hk3
        simp -implicitDefEqProofs (disch := first | omega | (simp only [St.set_n, St.up_n, List.length_cons, List.length_nil]; omega)) only [go_sem, Nat.reduceAdd, Nat.reduceMul, Nat.reduceSub, Int.reduceAdd, Int.reduceMul, Int.reduceSub, Int.reduceNeg, Int.reduceToNat, q5]
        exact ⟨l.length - (i + 1), by omega, i + 1, S, sv, rfl, by omega, ⟨by simp -implicitDefEqProofs (disch := first | omega | (simp only [St.set_n, St.up_n, List.length_cons, List.length_nil]; omega)) only [go_sem, Nat.reduceAdd, Nat.reduceMul, Nat.reduceSub, Int.reduceAdd, Int.reduceMul, Int.reduceSub, Int.reduceNeg, Int.reduceToNat, q0], by simp -implicitDefEqProofs (disch := first | omega | (simp only [St.set_n, St.up_n, List.length_cons, List.length_nil]; omega)) only [go_sem, Nat.reduceAdd, Nat.reduceMul, Nat.reduceSub, Int.reduceAdd, Int.reduceMul, Int.reduceSub, Int.reduceNeg, Int.reduceToNat, q3], by simp -implicitDefEqProofs (disch := first | omega | (simp only [St.set_n, St.up_n, List.length_cons, List.length_nil]; omega)) only [go_sem, Nat.reduceAdd, Nat.reduceMul, Nat.reduceSub, Int.reduceAdd, Int.reduceMul, Int.reduceSub, Int.reduceNeg, Int.reduceToNat, q4], by simp -implicitDefEqProofs (disch := first | omega | (simp only [St.set_n, St.up_n, List.length_cons, List.length_nil]; omega)) only [go_sem, Nat.reduceAdd, Nat.reduceMul, Nat.reduceSub, Int.reduceAdd, Int.reduceMul, Int.reduceSub, Int.reduceNeg, Int.reduceToNat, hd]⟩, ⟨by simp -implicitDefEqProofs (disch := first | omega | (simp only [St.set_n, St.up_n, List.length_cons, List.length_nil]; omega)) only [go_sem, Nat.reduceAdd, Nat.reduceMul, Nat.reduceSub, Int.reduceAdd, Int.reduceMul, Int.reduceSub, Int.reduceNeg, Int.reduceToNat]; rfl⟩, hH.keep (fun c x hx => hx) (by simp only [St.up_n]; omega), by omega, by omega⟩
      · obtain ⟨j, c, hj, hc, hc0⟩ : ∃ (j : Nat) (c : Cl), x.id = j + 1 ∧ S.l[j]? = some c ∧ c.to = 0 := by
          have h1 : ¬ x.id < 1 := fun h => hbad (.inl h)
          have h2 : ¬ (S.l.length : Int) < x.id := fun h => hbad (.inr (.inl h))
          have h3 : (x.id - 1).toNat < S.l.length := by omega
          refine ⟨(x.id - 1).toNat, S.l[(x.id - 1).toNat], by omega, List.getElem?_eq_getElem h3, ?_⟩
          by_cases h4 : (S.l[(x.id - 1).toNat]'h3).to = 0
          · exact h4
          · exact absurd (.inr (.inr ⟨(x.id - 1).toNat, S.l[(x.id - 1).toNat], by omega, List.getElem?_eq_getElem h3, h4⟩)) hbad
        have hjl := (List.getElem?_eq_some_iff.1 hc).1
        refine callF_of (log_end (a := x.an) hlg (by omega) (by omega) hj hc hc0 fun k2 hk2 => ?_)
        have hk9 : ∀ d x', d ≠ k → s.m d = some x' → ((s.set k (.comp (LogR (S.fin j c x.an) k))).up k2).m d = some x' := fun d x' hc hx => by simp -implicitDefEqProofs (disch := first | omega | (simp only [St.set_n, St.up_n, List.length_cons, List.length_nil]; omega)) only [go_sem, Nat.reduceAdd, Nat.reduceMul, Nat.reduceSub, Int.reduceAdd, Int.reduceMul, Int.reduceSub, Int.reduceNeg, Int.reduceToNat, hx]
        have hrl2 : RlO ((s.set k (.comp (LogR (S.fin j c x.an) k))).up k2) k1 S sv := hrl.keep fun d x' hc hx => hk9 d x' (by
          rcases hc with h | h
          · omega
          · exact (hH.nb d h).2) hx
        simp -implicitDefEqProofs (disch := first | omega | (simp only [St.set_n, St.up_n, List.length_cons, List.length_nil]; omega)) only [go_sem, Nat.reduceAdd, Nat.reduceMul, Nat.reduceSub, Int.reduceAdd, Int.reduceMul, Int.reduceSub, Int.reduceNeg, Int.reduceToNat, q0, q3, q4, q5, hlt, hsb, hb, hec]
        refine callF_of (rl_end (a := x.an) hrl2 (by omega) (by omega) hj hc hc0 fun s3 hrl3 hk3 hn3 => ?_)
        simp -implicitDefEqProofs (disch := first | omega | (simp only [St.set_n, St.up_n, List.length_cons, List.length_nil]; omega)) only [go_sem, Nat.reduceAdd, Nat.reduceMul, Nat.reduceSub, Int.reduceAdd, Int.reduceMul, Int.reduceSub, Int.reduceNeg, Int.reduceToNat, q5]
        have hn3' : k2 ≤ s3.n := hn3
        have hskn : blk sv ≠ some k := fun e => (hH.nb k e).2 rfl
        have hl2 : (S.l.set j { c with an := x.an, to := S.now + 1 }).length = S.l.length := List.length_set
        exact ⟨l.length - (i + 1), by omega, i + 1, S.fin j c x.an, sv, rfl, by omega, ⟨by simp -implicitDefEqProofs (disch := first | omega | (simp only [St.set_n, St.up_n, List.length_cons, List.length_nil]; omega)) only [go_sem, Nat.reduceAdd, Nat.reduceMul, Nat.reduceSub, Int.reduceAdd, Int.reduceMul, Int.reduceSub, Int.reduceNeg, Int.reduceToNat, q0], by simp -implicitDefEqProofs (disch := first | omega | (simp only [St.set_n, St.up_n, List.length_cons, List.length_nil]; omega)) only [go_sem, Nat.reduceAdd, Nat.reduceMul, Nat.reduceSub, Int.reduceAdd, Int.reduceMul, Int.reduceSub, Int.reduceNeg, Int.reduceToNat, q3], by simp -implicitDefEqProofs (disch := first | omega | (simp only [St.set_n, St.up_n, List.length_cons, List.length_nil]; omega)) only [go_sem, Nat.reduceAdd, Nat.reduceMul, Nat.reduceSub, Int.reduceAdd, Int.reduceMul, Int.reduceSub, Int.reduceNeg, Int.reduceToNat, q4], by simp -implicitDefEqProofs (disch := first | omega | (simp only [St.set_n, St.up_n, List.length_cons, List.length_nil]; omega)) only [go_sem, Nat.reduceAdd, Nat.reduceMul, Nat.reduceSub, Int.reduceAdd, Int.reduceMul, Int.reduceSub, Int.reduceNeg, Int.reduceToNat, hd]⟩, ⟨by simp -implicitDefEqProofs (disch := first | omega | (simp only [St.set_n, St.up_n, List.length_cons, List.length_nil]; omega)) only [go_sem, Nat.reduceAdd, Nat.reduceMul, Nat.reduceSub, Int.reduceAdd, Int.reduceMul, Int.reduceSub, Int.reduceNeg, Int.reduceToNat]; rfl⟩, ⟨hk3 k _ (by omega) hskn (by simp -implicitDefEqProofs (disch := first | omega | (simp only [St.set_n, St.up_n, List.length_cons, List.length_nil]; omega)) only [go_sem, Nat.reduceAdd, Nat.reduceMul, Nat.reduceSub, Int.reduceAdd, Int.reduceMul, Int.reduceSub, Int.reduceNeg, Int.reduceToNat]; rfl), hrl3, hH.nb, by omega, fun d x' hc hx => hk3 d x' (by omega) (fun e => by have := (hH.nb d e).1; omega) (hk9 d x' (by omega) (hH.old d x' hc hx))⟩, by simp only [LS.fin]; omega, by simp only [LS.fin, hl2]; omega⟩
  · simp -implicitDefEqProofs (disch := first | omega | (simp only [St.set_n, St.up_n, List.length_cons, List.length_nil]; omega)) only [go_sem, Nat.reduceAdd, Nat.reduceMul, Nat.reduceSub, Int.reduceAdd, Int.reduceMul, Int.reduceSub, Int.reduceNeg, Int.reduceToNat, q0, q3, q4, q5, hlt]
    have hrr := hrl.root
    have hS300 : S.l.length ≤ 300 := by omega
    refine loop_rule (fun m e s' => ∃ i : Nat, m = S.l.length - i ∧ i ≤ S.l.length ∧ Hm a l.length cap k k1 e ∧ Hj S.l.length i (!(S.l.take i).any fun c => decide (c.to = 0)) e ∧ Eqs s s') S.l.length ?_ ?_
    · exact ⟨0, by omega, by omega, ⟨by simp -implicitDefEqProofs (disch := first | omega | (simp only [St.set_n, St.up_n, List.length_cons, List.length_nil]; omega)) only [go_sem, Nat.reduceAdd, Nat.reduceMul, Nat.reduceSub, Int.reduceAdd, Int.reduceMul, Int.reduceSub, Int.reduceNeg, Int.reduceToNat, q0], by simp -implicitDefEqProofs (disch := first | omega | (simp only [St.set_n, St.up_n, List.length_cons, List.length_nil]; omega)) only [go_sem, Nat.reduceAdd, Nat.reduceMul, Nat.reduceSub, Int.reduceAdd, Int.reduceMul, Int.reduceSub, Int.reduceNeg, Int.reduceToNat, q3], by simp -implicitDefEqProofs (disch := first | omega | (simp only [St.set_n, St.up_n, List.length_cons, List.length_nil]; omega)) only [go_sem, Nat.reduceAdd, Nat.reduceMul, Nat.reduceSub, Int.reduceAdd, Int.reduceMul, Int.reduceSub, Int.reduceNeg, Int.reduceToNat, q4], by simp -implicitDefEqProofs (disch := first | omega | (simp only [St.set_n, St.up_n, List.length_cons, List.length_nil]; omega)) only [go_sem, Nat.reduceAdd, Nat.reduceMul, Nat.reduceSub, Int.reduceAdd, Int.reduceMul, Int.reduceSub, Int.reduceNeg, Int.reduceToNat, hd]⟩, ⟨by simp -implicitDefEqProofs (disch := first | omega | (simp only [St.set_n, St.up_n, List.length_cons, List.length_nil]; omega)) only [go_sem, Nat.reduceAdd, Nat.reduceMul, Nat.reduceSub, Int.reduceAdd, Int.reduceMul, Int.reduceSub, Int.reduceNeg, Int.reduceToNat]; rfl, by simp -implicitDefEqProofs (disch := first | omega | (simp only [St.set_n, St.up_n, List.length_cons, List.length_nil]; omega)) only [go_sem, Nat.reduceAdd, Nat.reduceMul, Nat.reduceSub, Int.reduceAdd, Int.reduceMul, Int.reduceSub, Int.reduceNeg, Int.reduceToNat]; rfl⟩, ⟨rfl⟩⟩
    clear q0 q3 q4 q5 hd hi hm hlt
    rintro m e s' hws' ⟨i, hm, hi, ⟨q0, q3, q4, hd⟩, ⟨q6, q7⟩, ⟨rfl⟩⟩
    obtain ⟨As, cs, rfl, _⟩ := hrl.own.is
    by_cases hlt : (i : Int) < S.l.length
    · obtain ⟨c, hc⟩ : ∃ x, S.l[i]? = some x := ⟨S.l[i]'(by omega), List.getElem?_eq_getElem (by omega)⟩
      obtain ⟨b1, c1, sp1, e1, _, m1, _, _⟩ := hrl.own.has (by omega)
      cases e1
      have hcc := cl_cells hc sp1
      have htk : (!(S.l.take (i + 1)).any fun c => decide (c.to = 0)) = ((!(S.l.take i).any fun c => decide (c.to = 0)) && !decide (c.to = 0)) := by
        rw [take_snoc' hc, List.any_append]; simp
      cases hany : !(S.l.take i).any fun c => decide (c.to = 0) with
      | false =>
        rw [hany] at q6 htk
        simp -implicitDefEqProofs (disch := first | omega | (simp only [St.set_n, St.up_n, List.length_cons, List.length_nil]; omega)) only [go_sem, Nat.reduceAdd, Nat.reduceMul, Nat.reduceSub, Int.reduceAdd, Int.reduceMul, Int.reduceSub, Int.reduceNeg, Int.reduceToNat, q0, q4, q6, q7, hlt, hrr, m1, hcc]
        exact ⟨S.l.length - (i + 1), by omega, i + 1, rfl, by omega, ⟨by simp -implicitDefEqProofs (disch := first | omega | (simp only [St.set_n, St.up_n, List.length_cons, List.length_nil]; omega)) only [go_sem, Nat.reduceAdd, Nat.reduceMul, Nat.reduceSub, Int.reduceAdd, Int.reduceMul, Int.reduceSub, Int.reduceNeg, Int.reduceToNat, q0], by simp -implicitDefEqProofs (disch := first | omega | (simp only [St.set_n, St.up_n, List.length_cons, List.length_nil]; omega)) only [go_sem, Nat.reduceAdd, Nat.reduceMul, Nat.reduceSub, Int.reduceAdd, Int.reduceMul, Int.reduceSub, Int.reduceNeg, Int.reduceToNat, q3], by simp -implicitDefEqProofs (disch := first | omega | (simp only [St.set_n, St.up_n, List.length_cons, List.length_nil]; omega)) only [go_sem, Nat.reduceAdd, Nat.reduceMul, Nat.reduceSub, Int.reduceAdd, Int.reduceMul, Int.reduceSub, Int.reduceNeg, Int.reduceToNat, q4], by simp -implicitDefEqProofs (disch := first | omega | (simp only [St.set_n, St.up_n, List.length_cons, List.length_nil]; omega)) only [go_sem, Nat.reduceAdd, Nat.reduceMul, Nat.reduceSub, Int.reduceAdd, Int.reduceMul, Int.reduceSub, Int.reduceNeg, Int.reduceToNat, hd]⟩, ⟨by rw [htk]; simp -implicitDefEqProofs (disch := first | omega | (simp only [St.set_n, St.up_n, List.length_cons, List.length_nil]; omega)) only [go_sem, Nat.reduceAdd, Nat.reduceMul, Nat.reduceSub, Int.reduceAdd, Int.reduceMul, Int.reduceSub, Int.reduceNeg, Int.reduceToNat], by simp -implicitDefEqProofs (disch := first | omega | (simp only [St.set_n, St.up_n, List.length_cons, List.length_nil]; omega)) only [go_sem, Nat.reduceAdd, Nat.reduceMul, Nat.reduceSub, Int.reduceAdd, Int.reduceMul, Int.reduceSub, Int.reduceNeg, Int.reduceToNat]; rfl⟩, ⟨rfl⟩⟩
      | true =>
        rw [hany] at q6 htk
        simp -implicitDefEqProofs (disch := first | omega | (simp only [St.set_n, St.up_n, List.length_cons, List.length_nil]; omega)) only [go_sem, Nat.reduceAdd, Nat.reduceMul, Nat.reduceSub, Int.reduceAdd, Int.reduceMul, Int.reduceSub, Int.reduceNeg, Int.reduceToNat, q0, q4, q6, q7, hlt, hrr, m1, hcc]
        refine ⟨S.l.length - (i + 1), by omega, i + 1, rfl, by omega, ⟨by simp -implicitDefEqProofs (disch := first | omega | (simp only [St.set_n, St.up_n, List.length_cons, List.length_nil]; omega)) only [go_sem, Nat.reduceAdd, Nat.reduceMul, Nat.reduceSub, Int.reduceAdd, Int.reduceMul, Int.reduceSub, Int.reduceNeg, Int.reduceToNat, q0], by simp -implicitDefEqProofs (disch := first | omega | (simp only [St.set_n, St.up_n, List.length_cons, List.length_nil]; omega)) only [go_sem, Nat.reduceAdd, Nat.reduceMul, Nat.reduceSub, Int.reduceAdd, Int.reduceMul, Int.reduceSub, Int.reduceNeg, Int.reduceToNat, q3], by simp -implicitDefEqProofs (disch := first | omega | (simp only [St.set_n, St.up_n, List.length_cons, List.length_nil]; omega)) only [go_sem, Nat.reduceAdd, Nat.reduceMul, Nat.reduceSub, Int.reduceAdd, Int.reduceMul, Int.reduceSub, Int.reduceNeg, Int.reduceToNat, q4], by simp -implicitDefEqProofs (disch := first | omega | (simp only [St.set_n, St.up_n, List.length_cons, List.length_nil]; omega)) only [go_sem, Nat.reduceAdd, Nat.reduceMul, Nat.reduceSub, Int.reduceAdd, Int.reduceMul, Int.reduceSub, Int.reduceNeg, Int.reduceToNat, hd]⟩, ⟨by rw [htk]; simp -implicitDefEqProofs (disch := first | omega | (simp only [St.set_n, St.up_n, List.length_cons, List.length_nil]; omega)) only [go_sem, Nat.reduceAdd, Nat.reduceMul, Nat.reduceSub, Int.reduceAdd, Int.reduceMul, Int.reduceSub, Int.reduceNeg, Int.reduceToNat]; simp, by simp -implicitDefEqProofs (disch := first | omega | (simp only [St.set_n, St.up_n, List.length_cons, List.length_nil]; omega)) only [go_sem, Nat.reduceAdd, Nat.reduceMul, Nat.reduceSub, Int.reduceAdd, Int.reduceMul, Int.reduceSub, Int.reduceNeg, Int.reduceToNat]; rfl⟩, ⟨rfl⟩⟩
    · have hie : i = S.l.length := by omega
      subst hie
      rw [List.take_length] at q6
      simp -implicitDefEqProofs (disch := first | omega | (simp only [St.set_n, St.up_n, List.length_cons, List.length_nil]; omega)) only [go_sem, Nat.reduceAdd, Nat.reduceMul, Nat.reduceSub, Int.reduceAdd, Int.reduceMul, Int.reduceSub, Int.reduceNeg, Int.reduceToNat, q0, q3, q4, q6, q7, hlt, hrr]
      refine callF_wf (log_calls hlg (by omega) fun v s1 ov hk9 hn1 hnb hws1 => ?_)
      obtain ⟨Av, cv, rfl, _⟩ := ov.is
      have hH1 := hH.keep (fun c x hx => (hk9 c x hx).1) hn1
      have hrr1 := hH1.rl.root
      simp -implicitDefEqProofs (disch := first | omega | (simp only [St.set_n, St.up_n, List.length_cons, List.length_nil]; omega)) only [go_sem, Nat.reduceAdd, Nat.reduceMul, Nat.reduceSub, Int.reduceAdd, Int.reduceMul, Int.reduceSub, Int.reduceNeg, Int.reduceToNat, q4, q6, hrr1]
      refine callF_of (same_calls (by omega) ov hH1.rl.own ?_)
      simp -implicitDefEqProofs (disch := first | omega | (simp only [St.set_n, St.up_n, List.length_cons, List.length_nil]; omega)) only [go_sem, Nat.reduceAdd, Nat.reduceMul, Nat.reduceSub, Int.reduceAdd, Int.reduceMul, Int.reduceSub, Int.reduceNeg, Int.reduceToNat]
      have hkn := hws'.2 _ _ hlg
      have hk1n := hws'.2 _ _ hrr
      have hsvn : ∀ b, blk (.slice As S.l.length cs) = some b → b < s'.n := fun b hb => by
        obtain ⟨o, ho⟩ := hrl.own.at_ hb
        exact (hws'.2 _ _ ho).2
      have hn9 : s'.n ≤ s1.n := hn1
      refine loop_rule (fun m e s2 => ∃ (i : Nat) (l' : List Cl), m = S.l.length - i ∧ i ≤ S.l.length ∧ l'.length = S.l.length ∧ Hm a l.length cap k k1 e ∧ Hw (.slice Av S.l.length cv) i e ∧ Hs σ k k1 S (.slice As S.l.length cs) s2 ∧ Own s2 65 15 (flat fC l') S.l.length (.slice Av S.l.length cv)) S.l.length ?_ ?_
      · exact ⟨0, S.l, by omega, by omega, rfl, ⟨by simp -implicitDefEqProofs (disch := first | omega | (simp only [St.set_n, St.up_n, List.length_cons, List.length_nil]; omega)) only [go_sem, Nat.reduceAdd, Nat.reduceMul, Nat.reduceSub, Int.reduceAdd, Int.reduceMul, Int.reduceSub, Int.reduceNeg, Int.reduceToNat, q0], by simp -implicitDefEqProofs (disch := first | omega | (simp only [St.set_n, St.up_n, List.length_cons, List.length_nil]; omega)) only [go_sem, Nat.reduceAdd, Nat.reduceMul, Nat.reduceSub, Int.reduceAdd, Int.reduceMul, Int.reduceSub, Int.reduceNeg, Int.reduceToNat, q3], by simp -implicitDefEqProofs (disch := first | omega | (simp only [St.set_n, St.up_n, List.length_cons, List.length_nil]; omega)) only [go_sem, Nat.reduceAdd, Nat.reduceMul, Nat.reduceSub, Int.reduceAdd, Int.reduceMul, Int.reduceSub, Int.reduceNeg, Int.reduceToNat, q4], by simp -implicitDefEqProofs (disch := first | omega | (simp only [St.set_n, St.up_n, List.length_cons, List.length_nil]; omega)) only [go_sem, Nat.reduceAdd, Nat.reduceMul, Nat.reduceSub, Int.reduceAdd, Int.reduceMul, Int.reduceSub, Int.reduceNeg, Int.reduceToNat, hd]⟩, ⟨by simp -implicitDefEqProofs (disch := first | omega | (simp only [St.set_n, St.up_n, List.length_cons, List.length_nil]; omega)) only [go_sem, Nat.reduceAdd, Nat.reduceMul, Nat.reduceSub, Int.reduceAdd, Int.reduceMul, Int.reduceSub, Int.reduceNeg, Int.reduceToNat], by simp -implicitDefEqProofs (disch := first | omega | (simp only [St.set_n, St.up_n, List.length_cons, List.length_nil]; omega)) only [go_sem, Nat.reduceAdd, Nat.reduceMul, Nat.reduceSub, Int.reduceAdd, Int.reduceMul, Int.reduceSub, Int.reduceNeg, Int.reduceToNat]; rfl⟩, hH1, ov⟩
      clear q0 q3 q4 q6 q7 hd ov hlt
      rintro m e s2 hws2 ⟨i, l', hm, hi, hl', ⟨q0, q3, q4, hd⟩, ⟨q8, q10⟩, hH2, ov⟩
      by_cases hlt : (i : Int) < S.l.length
      · obtain ⟨c, hc⟩ : ∃ x, l'[i]? = some x := ⟨l'[i]'(by omega), List.getElem?_eq_getElem (by omega)⟩
        obtain ⟨b1, c1, sp1, e1, hc1, m1, lb, _⟩ := ov.has (by omega)
        cases e1
        have hb1 := hnb b1 rfl
        have st := flat_set fC_len l' sp1 i c { c with th := 99 } 0 (.int .i64 99) hc (by omega) rfl
        rw [Nat.add_zero] at st
        simp -implicitDefEqProofs (disch := first | omega | (simp only [St.set_n, St.up_n, List.length_cons, List.length_nil]; omega)) only [go_sem, Nat.reduceAdd, Nat.reduceMul, Nat.reduceSub, Int.reduceAdd, Int.reduceMul, Int.reduceSub, Int.reduceNeg, Int.reduceToNat, q8, q10, hlt, m1, lb, st]
        have hk5 : ∀ d x, d ≠ b1 → s2.m d = some x → (s2.set b1 (.raw (.cells (flat fC (l'.set i { c with th := 99 }) ++ sp1).toArray 65 (0, 0)))).m d = some x := fun d x hc hx => by simp -implicitDefEqProofs (disch := first | omega | (simp only [St.set_n, St.up_n, List.length_cons, List.length_nil]; omega)) only [go_sem, Nat.reduceAdd, Nat.reduceMul, Nat.reduceSub, Int.reduceAdd, Int.reduceMul, Int.reduceSub, Int.reduceNeg, Int.reduceToNat, hx]
        have hl2 : (l'.set i { c with th := 99 }).length = S.l.length := by rw [List.length_set]; exact hl'
        refine ⟨S.l.length - (i + 1), by omega, i + 1, l'.set i { c with th := 99 }, rfl, by omega, hl2, ⟨by simp -implicitDefEqProofs (disch := first | omega | (simp only [St.set_n, St.up_n, List.length_cons, List.length_nil]; omega)) only [go_sem, Nat.reduceAdd, Nat.reduceMul, Nat.reduceSub, Int.reduceAdd, Int.reduceMul, Int.reduceSub, Int.reduceNeg, Int.reduceToNat, q0], by simp -implicitDefEqProofs (disch := first | omega | (simp only [St.set_n, St.up_n, List.length_cons, List.length_nil]; omega)) only [go_sem, Nat.reduceAdd, Nat.reduceMul, Nat.reduceSub, Int.reduceAdd, Int.reduceMul, Int.reduceSub, Int.reduceNeg, Int.reduceToNat, q3], by simp -implicitDefEqProofs (disch := first | omega | (simp only [St.set_n, St.up_n, List.length_cons, List.length_nil]; omega)) only [go_sem, Nat.reduceAdd, Nat.reduceMul, Nat.reduceSub, Int.reduceAdd, Int.reduceMul, Int.reduceSub, Int.reduceNeg, Int.reduceToNat, q4], by simp -implicitDefEqProofs (disch := first | omega | (simp only [St.set_n, St.up_n, List.length_cons, List.length_nil]; omega)) only [go_sem, Nat.reduceAdd, Nat.reduceMul, Nat.reduceSub, Int.reduceAdd, Int.reduceMul, Int.reduceSub, Int.reduceNeg, Int.reduceToNat, hd]⟩, ⟨by simp -implicitDefEqProofs (disch := first | omega | (simp only [St.set_n, St.up_n, List.length_cons, List.length_nil]; omega)) only [go_sem, Nat.reduceAdd, Nat.reduceMul, Nat.reduceSub, Int.reduceAdd, Int.reduceMul, Int.reduceSub, Int.reduceNeg, Int.reduceToNat, q8], by simp -implicitDefEqProofs (disch := first | omega | (simp only [St.set_n, St.up_n, List.length_cons, List.length_nil]; omega)) only [go_sem, Nat.reduceAdd, Nat.reduceMul, Nat.reduceSub, Int.reduceAdd, Int.reduceMul, Int.reduceSub, Int.reduceNeg, Int.reduceToNat]; rfl⟩, ⟨hk5 _ _ (by omega) hH2.lg, hH2.rl.keep fun d x hd hx => hk5 d x ?_ hx, hH2.nb, hH2.q1, fun d x hd hx => hk5 d x (by omega) (hH2.old d x hd hx)⟩, Own.of' (sp := sp1) (by simp -implicitDefEqProofs (disch := first | omega | (simp only [St.set_n, St.up_n, List.length_cons, List.length_nil]; omega)) only [go_sem, Nat.reduceAdd, Nat.reduceMul, Nat.reduceSub, Int.reduceAdd, Int.reduceMul, Int.reduceSub, Int.reduceNeg, Int.reduceToNat]) (by rw [flat_length fC_len, hl2]) hc1 (by rw [← st, List.length_set]; exact lb)⟩
        rcases hd with h | h
        · omega
        · have := hsvn d h; omega
      · simp -implicitDefEqProofs (disch := first | omega | (simp only [St.set_n, St.up_n, List.length_cons, List.length_nil]; omega)) only [go_sem, Nat.reduceAdd, Nat.reduceMul, Nat.reduceSub, Int.reduceAdd, Int.reduceMul, Int.reduceSub, Int.reduceNeg, Int.reduceToNat, q3, q8, q10, hlt]
        refine callF_wf (log_calls hH2.lg (by omega) fun v2 s3 ov2 hk3 hn3 hnb3 hws3 => ?_)
        have hH3 := hH2.keep (fun c x hx => (hk3 c x hx).1) hn3
        have hrr3 := hH3.rl.root
        simp -implicitDefEqProofs (disch := first | omega | (simp only [St.set_n, St.up_n, List.length_cons, List.length_nil]; omega)) only [go_sem, Nat.reduceAdd, Nat.reduceMul, Nat.reduceSub, Int.reduceAdd, Int.reduceMul, Int.reduceSub, Int.reduceNeg, Int.reduceToNat, q4, hrr3]
        refine callF_of (same_calls (by omega) ov2 hH3.rl.own ?_)
        simp -implicitDefEqProofs (disch := first | omega | (simp only [St.set_n, St.up_n, List.length_cons, List.length_nil]; omega)) only [go_sem, Nat.reduceAdd, Nat.reduceMul, Nat.reduceSub, Int.reduceAdd, Int.reduceMul, Int.reduceSub, Int.reduceNeg, Int.reduceToNat, hd]
        exact ⟨_, To.same (fun d y h2 h3 => hH3.old d y h2 h3) hwf, hK _ (by have := hH3.q1; omega)⟩
end
end Go.Proofs.Ytgcojbgkenndhaa
