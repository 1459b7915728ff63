/- Histories: 'Begin', by a walk. -/
import Derived.Test.YtdbgeahmhfocaaaGreatHist
namespace Go.Proofs.YtdbgeahmhfocaaaGreat
set_option linter.unusedSimpArgs false
set_option linter.unusedVariables false
set_option maxRecDepth 100000
open Go Go.RowKit
section
variable {B : World} {σ τ : St} {K : Value → St → Prop}

structure BgJ (B : World) (σ : St) (p : Nat) (S : LS) (x3 x4 x5 : Nat) (t : Int) (op : COp) (sv : Value) (b : Nat) (e : Fr) (s : St) : Prop where
  v3 : e.v 3 = .pointer (some ⟨x3, 0, none⟩)
  v4 : e.v 4 = .pointer (some ⟨x4, 0, none⟩)
  v5 : e.v 5 = .pointer (some ⟨x5, 0, none⟩)
  d : e.d = []
  m3 : s.m x3 = some (.raw (.cells #[.pointer (some ⟨p, 0, none⟩)] 43 (0, 0)))
  m4 : s.m x4 = some (.raw (.cells #[.int .i64 t] 3 (0, 0)))
  m5 : s.m x5 = some (.raw (.cells (fOp op).toArray 48 (0, 0)))
  O : LgO B σ s p S sv (.map (some b))
  o3 : x3 ≠ p ∧ blk sv ≠ some x3 ∧ x3 ≠ b
  o4 : x4 ≠ p ∧ blk sv ≠ some x4 ∧ x4 ≠ b
  o5 : x5 ≠ p ∧ blk sv ≠ some x5 ∧ x5 ≠ b
set_option maxHeartbeats 4000000 in
theorem log_begin {S : LS} {p : Nat} {t : Int} {op : COp} (hm : σ.m p = some (.comp (LogR S p))) (hn1 : S.now ≤ 1000000) (hl : S.l.length ≤ 100000)
    (hK : ∀ k, σ.n ≤ k → K (.int .i64 (S.l.length + 1)) ((σ.set p (.comp (LogR (S.begin t op) p))).up k)) :
    Fn Tryz.prog B 37 #[.pointer (some ⟨p, 0, none⟩), .int .i64 t, .agg (fOp op).toArray] σ K := by
  refine Fn.opnLS hm is37 (by simp) fun sv mv τ hn O => ?_
  have hr := O.root
  obtain ⟨n1, n2, n3⟩ := O.off (Nat.le_refl τ.n)
  obtain ⟨n1', n2', n3'⟩ := O.off (c := τ.n + 1) (by omega)
  obtain ⟨n1'', n2'', n3''⟩ := O.off (c := τ.n + 1 + 1) (by omega)
  simp only [b37, Tryz.f37, Option.getD_some]
  refine SemS.seqw fun _ => ?_
  simp -implicitDefEqProofs (disch := first | omega | (simp only [St.set_n, St.up_n, List.length_cons, List.length_nil]; omega)) only [go_sem, Nat.reduceAdd, Nat.reduceMul, Nat.reduceSub, Int.reduceAdd, Int.reduceMul, Int.reduceSub, Int.reduceNeg, Int.reduceToNat, fOp]
  refine SemS.seqw fun _ => ?_
  simp -implicitDefEqProofs (disch := first | omega | (simp only [St.set_n, St.up_n, List.length_cons, List.length_nil]; omega)) only [go_sem, Nat.reduceAdd, Nat.reduceMul, Nat.reduceSub, Int.reduceAdd, Int.reduceMul, Int.reduceSub, Int.reduceNeg, Int.reduceToNat, n1, n1', n1'']
  have O3 : LgO B σ ((((τ.set τ.n (.raw (.cells #[.pointer (some ⟨p, 0, none⟩)] 43 (0, 0)))).set (τ.n + 1) (.raw (.cells #[.int .i64 t] 3 (0, 0)))).set (τ.n + 1 + 1) (.raw (.cells #[.int .i64 op.kind, .int .i64 op.sub, .string op.text, .string op.pay, .bool op.keep] 48 (0, 0)))).up (τ.n + 1 + 1 + 1)) p S sv mv := by
    have hwB := O.wf.1
    refine O.more ⟨by simp only [St.up_n]; omega, fun c x hc => ?_⟩ (fun c x hc => by have := (O.wf.2 _ _ hc).2; simp -implicitDefEqProofs (disch := first | omega | (simp only [St.set_n, St.up_n, List.length_cons, List.length_nil]; omega)) only [go_sem, Nat.reduceAdd, Nat.reduceMul, Nat.reduceSub, Int.reduceAdd, Int.reduceMul, Int.reduceSub, Int.reduceNeg, Int.reduceToNat, hc]) (by simp only [St.up_n]; omega)
    simp only [St.up_m, St.set] at hc
    simp only [St.up_n]
    split at hc
    · omega
    · split at hc
      · omega
      · split at hc
        · omega
        · have := O.wf.2 _ _ hc; omega
  have m3 : ((((τ.set τ.n (.raw (.cells #[.pointer (some ⟨p, 0, none⟩)] 43 (0, 0)))).set (τ.n + 1) (.raw (.cells #[.int .i64 t] 3 (0, 0)))).set (τ.n + 1 + 1) (.raw (.cells #[.int .i64 op.kind, .int .i64 op.sub, .string op.text, .string op.pay, .bool op.keep] 48 (0, 0)))).up (τ.n + 1 + 1 + 1)).m τ.n = some (.raw (.cells #[.pointer (some ⟨p, 0, none⟩)] 43 (0, 0))) := by simp -implicitDefEqProofs (disch := first | omega | (simp only [St.set_n, St.up_n, List.length_cons, List.length_nil]; omega)) only [go_sem, Nat.reduceAdd, Nat.reduceMul, Nat.reduceSub, Int.reduceAdd, Int.reduceMul, Int.reduceSub, Int.reduceNeg, Int.reduceToNat]
  have m4 : ((((τ.set τ.n (.raw (.cells #[.pointer (some ⟨p, 0, none⟩)] 43 (0, 0)))).set (τ.n + 1) (.raw (.cells #[.int .i64 t] 3 (0, 0)))).set (τ.n + 1 + 1) (.raw (.cells #[.int .i64 op.kind, .int .i64 op.sub, .string op.text, .string op.pay, .bool op.keep] 48 (0, 0)))).up (τ.n + 1 + 1 + 1)).m (τ.n + 1) = some (.raw (.cells #[.int .i64 t] 3 (0, 0))) := by simp -implicitDefEqProofs (disch := first | omega | (simp only [St.set_n, St.up_n, List.length_cons, List.length_nil]; omega)) only [go_sem, Nat.reduceAdd, Nat.reduceMul, Nat.reduceSub, Int.reduceAdd, Int.reduceMul, Int.reduceSub, Int.reduceNeg, Int.reduceToNat]
  have m5 : ((((τ.set τ.n (.raw (.cells #[.pointer (some ⟨p, 0, none⟩)] 43 (0, 0)))).set (τ.n + 1) (.raw (.cells #[.int .i64 t] 3 (0, 0)))).set (τ.n + 1 + 1) (.raw (.cells #[.int .i64 op.kind, .int .i64 op.sub, .string op.text, .string op.pay, .bool op.keep] 48 (0, 0)))).up (τ.n + 1 + 1 + 1)).m (τ.n + 1 + 1) = some (.raw (.cells (fOp op).toArray 48 (0, 0))) := by simp -implicitDefEqProofs (disch := first | omega | (simp only [St.set_n, St.up_n, List.length_cons, List.length_nil]; omega)) only [go_sem, Nat.reduceAdd, Nat.reduceMul, Nat.reduceSub, Int.reduceAdd, Int.reduceMul, Int.reduceSub, Int.reduceNeg, Int.reduceToNat]; rfl
  have hn0 : τ.n + 1 + 1 + 1 = ((((τ.set τ.n (.raw (.cells #[.pointer (some ⟨p, 0, none⟩)] 43 (0, 0)))).set (τ.n + 1) (.raw (.cells #[.int .i64 t] 3 (0, 0)))).set (τ.n + 1 + 1) (.raw (.cells #[.int .i64 op.kind, .int .i64 op.sub, .string op.text, .string op.pay, .bool op.keep] 48 (0, 0)))).up (τ.n + 1 + 1 + 1)).n := rfl
  generalize ((((τ.set τ.n (.raw (.cells #[.pointer (some ⟨p, 0, none⟩)] 43 (0, 0)))).set (τ.n + 1) (.raw (.cells #[.int .i64 t] 3 (0, 0)))).set (τ.n + 1 + 1) (.raw (.cells #[.int .i64 op.kind, .int .i64 op.sub, .string op.text, .string op.pay, .bool op.keep] 48 (0, 0)))).up (τ.n + 1 + 1 + 1)) = s0 at O3 m3 m4 m5 hn0 ⊢
  refine SemS.seq (fun e s => ∃ b, BgJ B σ p S τ.n (τ.n + 1) (τ.n + 1 + 1) t op sv b e s) ?_ ?_
  · refine SemS.wp fun hwf0 => ?_
    have hr3 := O3.root
    rcases O3.mp with ⟨rfl, hnil⟩ | ⟨b, mm, rfl, hmm, hbp, hbs, hg⟩
    · obtain ⟨z1, z2, z3⟩ := O3.off (Nat.le_refl s0.n)
      have hp0 := O3.wf.2 _ _ hr3
      have hB0 := O3.wf.1
      have hn03 := O3.n
      simp -implicitDefEqProofs (disch := first | omega | (simp only [St.set_n, St.up_n, List.length_cons, List.length_nil]; omega)) only [go_sem, Nat.reduceAdd, Nat.reduceMul, Nat.reduceSub, Int.reduceAdd, Int.reduceMul, Int.reduceSub, Int.reduceNeg, Int.reduceToNat, m3, hr3]
      refine ⟨_, To.refl _ _, s0.n, ⟨by simp -implicitDefEqProofs (disch := first | omega | (simp only [St.set_n, St.up_n, List.length_cons, List.length_nil]; omega)) only [go_sem, Nat.reduceAdd, Nat.reduceMul, Nat.reduceSub, Int.reduceAdd, Int.reduceMul, Int.reduceSub, Int.reduceNeg, Int.reduceToNat], by simp -implicitDefEqProofs (disch := first | omega | (simp only [St.set_n, St.up_n, List.length_cons, List.length_nil]; omega)) only [go_sem, Nat.reduceAdd, Nat.reduceMul, Nat.reduceSub, Int.reduceAdd, Int.reduceMul, Int.reduceSub, Int.reduceNeg, Int.reduceToNat], by simp -implicitDefEqProofs (disch := first | omega | (simp only [St.set_n, St.up_n, List.length_cons, List.length_nil]; omega)) only [go_sem, Nat.reduceAdd, Nat.reduceMul, Nat.reduceSub, Int.reduceAdd, Int.reduceMul, Int.reduceSub, Int.reduceNeg, Int.reduceToNat], by simp -implicitDefEqProofs (disch := first | omega | (simp only [St.set_n, St.up_n, List.length_cons, List.length_nil]; omega)) only [go_sem, Nat.reduceAdd, Nat.reduceMul, Nat.reduceSub, Int.reduceAdd, Int.reduceMul, Int.reduceSub, Int.reduceNeg, Int.reduceToNat], by simp -implicitDefEqProofs (disch := first | omega | (simp only [St.set_n, St.up_n, List.length_cons, List.length_nil]; omega)) only [go_sem, Nat.reduceAdd, Nat.reduceMul, Nat.reduceSub, Int.reduceAdd, Int.reduceMul, Int.reduceSub, Int.reduceNeg, Int.reduceToNat, m3], by simp -implicitDefEqProofs (disch := first | omega | (simp only [St.set_n, St.up_n, List.length_cons, List.length_nil]; omega)) only [go_sem, Nat.reduceAdd, Nat.reduceMul, Nat.reduceSub, Int.reduceAdd, Int.reduceMul, Int.reduceSub, Int.reduceNeg, Int.reduceToNat, m4], by simp -implicitDefEqProofs (disch := first | omega | (simp only [St.set_n, St.up_n, List.length_cons, List.length_nil]; omega)) only [go_sem, Nat.reduceAdd, Nat.reduceMul, Nat.reduceSub, Int.reduceAdd, Int.reduceMul, Int.reduceSub, Int.reduceNeg, Int.reduceToNat, m5], ⟨⟨?_, fun c x hc => ?_⟩, ?_, ?_, O3.own.keepR fun b o hb ho => ?_, O3.offp, .inr ⟨s0.n, [], rfl, ?_, z1, z2, fun t => ?_⟩, fun c x hc hx => ?_⟩, ⟨n1, n2, by omega⟩, ⟨n1', n2', by omega⟩, ⟨n1'', n2'', by omega⟩⟩⟩
      · simp only [St.up_n, St.set_n]; omega
      · simp only [St.up_m, St.up_n, St.set_n, St.set] at hc ⊢
        split at hc
        · omega
        · split at hc
          · omega
          · have := O3.wf.2 _ _ hc; omega
      · simp only [St.up_n, St.set_n]; omega
      · simp -implicitDefEqProofs (disch := first | omega | (simp only [St.set_n, St.up_n, List.length_cons, List.length_nil]; omega)) only [go_sem, Nat.reduceAdd, Nat.reduceMul, Nat.reduceSub, Int.reduceAdd, Int.reduceMul, Int.reduceSub, Int.reduceNeg, Int.reduceToNat]
      · have := (O3.wf.2 _ _ ho).2
        have hbp : b ≠ p := fun e => O3.offp (e ▸ hb)
        simp -implicitDefEqProofs (disch := first | omega | (simp only [St.set_n, St.up_n, List.length_cons, List.length_nil]; omega)) only [go_sem, Nat.reduceAdd, Nat.reduceMul, Nat.reduceSub, Int.reduceAdd, Int.reduceMul, Int.reduceSub, Int.reduceNeg, Int.reduceToNat, ho]
      · simp -implicitDefEqProofs (disch := first | omega | (simp only [St.set_n, St.up_n, List.length_cons, List.length_nil]; omega)) only [go_sem, Nat.reduceAdd, Nat.reduceMul, Nat.reduceSub, Int.reduceAdd, Int.reduceMul, Int.reduceSub, Int.reduceNeg, Int.reduceToNat]
      · rw [hnil]; rfl
      · obtain ⟨h1, h2, h3⟩ := O3.fr c x hc hx
        have := (O3.wf.2 _ _ h1).2
        refine ⟨by simp -implicitDefEqProofs (disch := first | omega | (simp only [St.set_n, St.up_n, List.length_cons, List.length_nil]; omega)) only [go_sem, Nat.reduceAdd, Nat.reduceMul, Nat.reduceSub, Int.reduceAdd, Int.reduceMul, Int.reduceSub, Int.reduceNeg, Int.reduceToNat, h1], h2, fun e => ?_⟩
        simp only [mblk, Option.some.injEq] at e
        omega
    · simp -implicitDefEqProofs (disch := first | omega | (simp only [St.set_n, St.up_n, List.length_cons, List.length_nil]; omega)) only [go_sem, Nat.reduceAdd, Nat.reduceMul, Nat.reduceSub, Int.reduceAdd, Int.reduceMul, Int.reduceSub, Int.reduceNeg, Int.reduceToNat, m3, hr3]
      have hb3 := (O3.wf.2 _ _ hmm).2
      have hoff := fun c (hc : τ.n ≤ c) => O.off hc
      refine ⟨_, To.refl _ _, b, ⟨by simp -implicitDefEqProofs (disch := first | omega | (simp only [St.set_n, St.up_n, List.length_cons, List.length_nil]; omega)) only [go_sem, Nat.reduceAdd, Nat.reduceMul, Nat.reduceSub, Int.reduceAdd, Int.reduceMul, Int.reduceSub, Int.reduceNeg, Int.reduceToNat], by simp -implicitDefEqProofs (disch := first | omega | (simp only [St.set_n, St.up_n, List.length_cons, List.length_nil]; omega)) only [go_sem, Nat.reduceAdd, Nat.reduceMul, Nat.reduceSub, Int.reduceAdd, Int.reduceMul, Int.reduceSub, Int.reduceNeg, Int.reduceToNat], by simp -implicitDefEqProofs (disch := first | omega | (simp only [St.set_n, St.up_n, List.length_cons, List.length_nil]; omega)) only [go_sem, Nat.reduceAdd, Nat.reduceMul, Nat.reduceSub, Int.reduceAdd, Int.reduceMul, Int.reduceSub, Int.reduceNeg, Int.reduceToNat], by simp -implicitDefEqProofs (disch := first | omega | (simp only [St.set_n, St.up_n, List.length_cons, List.length_nil]; omega)) only [go_sem, Nat.reduceAdd, Nat.reduceMul, Nat.reduceSub, Int.reduceAdd, Int.reduceMul, Int.reduceSub, Int.reduceNeg, Int.reduceToNat], m3, m4, m5, O3, ⟨n1, n2, ?_⟩, ⟨n1', n2', ?_⟩, ⟨n1'', n2'', ?_⟩⟩⟩
      · exact fun e => n3 (by simp [mblk, e])
      · exact fun e => n3' (by simp [mblk, e])
      · exact fun e => n3'' (by simp [mblk, e])
  · rintro e s hws ⟨b, q3, q4, q5, hd, m3, m4, m5, O, ⟨a1, a2, a3⟩, ⟨b1, b2, b3⟩, ⟨c1, c2, c3⟩⟩
    refine SemS.wp fun _ => ?_
    have hr := O.root
    have hos := O.own
    obtain ⟨mm, hmm, hbp, hbs, hg⟩ : ∃ mm, s.m b = some (.raw (mapO mm)) ∧ b ≠ p ∧ blk sv ≠ some b ∧ ∀ t, (mget mm t).getD (.int .i64 0) = .int .i64 (cnt S.l t) := by
      rcases O.mp with ⟨h, _⟩ | ⟨b', mm, h, h1, h2⟩
      · cases h
      · cases h; exact ⟨mm, h1, h2⟩
    have hgt := hg t
    simp -implicitDefEqProofs (disch := first | omega | (simp only [St.set_n, St.up_n, List.length_cons, List.length_nil]; omega)) only [go_sem, Nat.reduceAdd, Nat.reduceMul, Nat.reduceSub, Int.reduceAdd, Int.reduceMul, Int.reduceSub, Int.reduceNeg, Int.reduceToNat, q3, q4, q5, m3, m4, m5, hr, hd, hmm, hgt, fOp]
    refine effD_plan [0, 0, 2, 6, 14, 0, 0, 64, 192, 448, 0, 1984, 0, 0, 8192, 24576, 57344, 131040, 262112, 524286, 1048575, 2097151, 4194303] [0, 1, 2, 3, 4, 5, 6, 7, 8, 9, 10, 11, 12, 13, 14, 15, 16, 17, 20, 21] (.eagq 0 (.eagq 1 (.eag 2 (.eag 3 (.eagq 4 (.eagq 5 (.eagq 6 (.eag 7 (.eag 8 (.eagq 9 (.eagq 10 (.eagq 11 (.eagq 12 (.eagq 13 (.eag 14 (.eag 15 (.eagq 16 (.eag 17 (.alt 18 [0, 1, 4] (.alt 19 [0] (.eag 20 (.eag 21 (.alt 22 [] .fin .stop))) .stop) .stop))))))))))))))))))) (by kernel_rfl) ?_
    have x3n := (O.wf.2 _ _ m3).2
    have hps := O.wf.2 _ _ hr
    simp -implicitDefEqProofs (disch := first | omega | (simp only [St.set_n, St.up_n, List.length_cons, List.length_nil]; omega)) only [go_sem, Nat.reduceAdd, Nat.reduceMul, Nat.reduceSub, Int.reduceAdd, Int.reduceMul, Int.reduceSub, Int.reduceNeg, Int.reduceToNat, q3, q4, q5, m3, m4, m5, hr, hd, hmm, hgt, fOp]
    have hbp' : p ≠ b := fun e => hbp e.symm
    have hw1 : (s.set p (.raw (.cells #[sv, .int .i64 (S.now + 1), .map (some b)] 106 (0, 0)))).wf B := O.wf.set _ hps
    have ho1 : Own (s.set p (.raw (.cells #[sv, .int .i64 (S.now + 1), .map (some b)] 106 (0, 0)))) 69 15 (flat fC S.l) S.l.length sv := hos.keepR fun c o hc ho => by
      have : c ≠ p := fun e => O.offp (e ▸ hc)
      simp -implicitDefEqProofs (disch := first | omega | (simp only [St.set_n, St.up_n, List.length_cons, List.length_nil]; omega)) only [go_sem, Nat.reduceAdd, Nat.reduceMul, Nat.reduceSub, Int.reduceAdd, Int.reduceMul, Int.reduceSub, Int.reduceNeg, Int.reduceToNat, ho]
    refine appF_one (s := s.set p (.raw (.cells #[sv, .int .i64 (S.now + 1), .map (some b)] 106 (0, 0)))) (sz := 15) (bts := 152) (ys := fC ⟨t, cnt S.l t, op, an0, S.now + 1, 0⟩) hw1 ho1 se56 kd56 zr69 rfl (by omega) rfl rfl (by omega) fun A' C' s1 hC' o1 hw2 hk1 hm1 hb1 hn1 => ?_
    simp only [St.set_n] at hb1 hn1
    have hold : ∀ c x, c ≠ p → blk sv ≠ some c → s.m c = some x → s1.m c = some x := fun c x h1 h2 hx => hm1 c x (by simp -implicitDefEqProofs (disch := first | omega | (simp only [St.set_n, St.up_n, List.length_cons, List.length_nil]; omega)) only [go_sem, Nat.reduceAdd, Nat.reduceMul, Nat.reduceSub, Int.reduceAdd, Int.reduceMul, Int.reduceSub, Int.reduceNeg, Int.reduceToNat, hx]) h2
    have r1 : s1.m p = some (.raw (.cells #[sv, .int .i64 (S.now + 1), .map (some b)] 106 (0, 0))) := hm1 p _ (by simp -implicitDefEqProofs (disch := first | omega | (simp only [St.set_n, St.up_n, List.length_cons, List.length_nil]; omega)) only [go_sem, Nat.reduceAdd, Nat.reduceMul, Nat.reduceSub, Int.reduceAdd, Int.reduceMul, Int.reduceSub, Int.reduceNeg, Int.reduceToNat]) O.offp
    have m31 := hold _ _ a1 a2 m3
    have m41 := hold _ _ b1 b2 m4
    have mb1 := hold _ _ hbp hbs hmm
    have off1 : ∀ c, c < s.n → blk sv ≠ some c → blk (.slice A' (S.l.length + 1) C') ≠ some c := fun c hc h2 e => by
      rcases hb1 c e with h | h
      · omega
      · exact h2 h
    have hp1 := off1 p hps.2 O.offp
    have hbb1 := off1 b (O.wf.2 _ _ hmm).2 hbs
    simp -implicitDefEqProofs (disch := first | omega | (simp only [St.set_n, St.up_n, List.length_cons, List.length_nil]; omega)) only [go_sem, Nat.reduceAdd, Nat.reduceMul, Nat.reduceSub, Int.reduceAdd, Int.reduceMul, Int.reduceSub, Int.reduceNeg, Int.reduceToNat, q3, q4, r1, m31, hd]
    have hcl := cnt_le S.l t
    refine log_defer (n := cnt S.l t) (t := t) (p := p) (b := b) (mm := mm) ?_ ?_ (sv := .slice A' (S.l.length + 1) C') (now := .int .i64 (S.now + 1)) ?_ ?_ hgt (by omega) ?_
    · simp -implicitDefEqProofs (disch := first | omega | (simp only [St.set_n, St.up_n, List.length_cons, List.length_nil]; omega)) only [go_sem, Nat.reduceAdd, Nat.reduceMul, Nat.reduceSub, Int.reduceAdd, Int.reduceMul, Int.reduceSub, Int.reduceNeg, Int.reduceToNat, m31]
    · simp -implicitDefEqProofs (disch := first | omega | (simp only [St.set_n, St.up_n, List.length_cons, List.length_nil]; omega)) only [go_sem, Nat.reduceAdd, Nat.reduceMul, Nat.reduceSub, Int.reduceAdd, Int.reduceMul, Int.reduceSub, Int.reduceNeg, Int.reduceToNat, m41]
    · simp -implicitDefEqProofs (disch := first | omega | (simp only [St.set_n, St.up_n, List.length_cons, List.length_nil]; omega)) only [go_sem, Nat.reduceAdd, Nat.reduceMul, Nat.reduceSub, Int.reduceAdd, Int.reduceMul, Int.reduceSub, Int.reduceNeg, Int.reduceToNat]
    · simp -implicitDefEqProofs (disch := first | omega | (simp only [St.set_n, St.up_n, List.length_cons, List.length_nil]; omega)) only [go_sem, Nat.reduceAdd, Nat.reduceMul, Nat.reduceSub, Int.reduceAdd, Int.reduceMul, Int.reduceSub, Int.reduceNeg, Int.reduceToNat, mb1]
    have hS : (S.l ++ [(⟨t, cnt S.l t, op, an0, S.now + 1, 0⟩ : Cl)]).length = S.l.length + 1 := by simp
    refine LgO.close (S := S.begin t op) (sv := .slice A' (S.l.length + 1) C') (mv := .map (some b)) ⟨(hw2.set _ ⟨hps.1, by omega⟩).set _ ⟨(O.wf.2 _ _ hmm).1, by have := (O.wf.2 _ _ hmm).2; simp only [St.set_n]; omega⟩, by have := O.n; simp only [St.set_n]; omega, by simp -implicitDefEqProofs (disch := first | omega | (simp only [St.set_n, St.up_n, List.length_cons, List.length_nil]; omega)) only [go_sem, Nat.reduceAdd, Nat.reduceMul, Nat.reduceSub, Int.reduceAdd, Int.reduceMul, Int.reduceSub, Int.reduceNeg, Int.reduceToNat]; rfl, ?_, hp1, .inr ⟨b, mput mm t (.int .i64 (cnt S.l t + 1)), rfl, by simp -implicitDefEqProofs (disch := first | omega | (simp only [St.set_n, St.up_n, List.length_cons, List.length_nil]; omega)) only [go_sem, Nat.reduceAdd, Nat.reduceMul, Nat.reduceSub, Int.reduceAdd, Int.reduceMul, Int.reduceSub, Int.reduceNeg, Int.reduceToNat], hbp, hbb1, fun t' => ?_⟩, fun c x hc hx => ?_⟩ hK
    · show Own _ 69 15 (flat fC (S.l ++ [(⟨t, cnt S.l t, op, an0, S.now + 1, 0⟩ : Cl)])) (S.l ++ [(⟨t, cnt S.l t, op, an0, S.now + 1, 0⟩ : Cl)]).length _
      rw [hS, flat_append]
      have hf1 : flat fC [(⟨t, cnt S.l t, op, an0, S.now + 1, 0⟩ : Cl)] = fC ⟨t, cnt S.l t, op, an0, S.now + 1, 0⟩ := by simp [flat]
      rw [hf1]
      refine o1.keepR fun c o hc ho => ?_
      have h1 : c ≠ p := fun e => hp1 (e ▸ hc)
      have h2 : c ≠ b := fun e => hbb1 (e ▸ hc)
      simp -implicitDefEqProofs (disch := first | omega | (simp only [St.set_n, St.up_n, List.length_cons, List.length_nil]; omega)) only [go_sem, Nat.reduceAdd, Nat.reduceMul, Nat.reduceSub, Int.reduceAdd, Int.reduceMul, Int.reduceSub, Int.reduceNeg, Int.reduceToNat, ho]
    · show _ = Value.int .i64 (cnt (S.l ++ [_]) t')
      rw [cnt_append, mget_put]
      by_cases e : t' = t
      · subst e; simp
      · rw [if_neg e, if_neg (Ne.symm e)]; exact hg t'
    · obtain ⟨h1, h2, h3⟩ := O.fr c x hc hx
      have hcb : c ≠ b := fun e => h3 (by simp [mblk, e])
      have hcn := (O.wf.2 _ _ h1).2
      have h4 := hold c x hc h2 h1
      exact ⟨by simp -implicitDefEqProofs (disch := first | omega | (simp only [St.set_n, St.up_n, List.length_cons, List.length_nil]; omega)) only [go_sem, Nat.reduceAdd, Nat.reduceMul, Nat.reduceSub, Int.reduceAdd, Int.reduceMul, Int.reduceSub, Int.reduceNeg, Int.reduceToNat, h4], off1 c hcn h2, h3⟩
end
end Go.Proofs.YtdbgeahmhfocaaaGreat
