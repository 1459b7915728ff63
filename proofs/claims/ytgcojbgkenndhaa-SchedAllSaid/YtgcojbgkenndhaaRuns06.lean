/- 'SchedRuns': the walk. -/
import Derived.Test.YtgcojbgkenndhaaRunsB
namespace Go.Proofs.Ytgcojbgkenndhaa
set_option linter.unusedSimpArgs false
set_option linter.unusedVariables false
set_option maxRecDepth 100000
open Go Go.RowKit
section
variable {B : World} {σ τ : St} {K : Value → St → Prop}
def w0 : WS := ⟨0, 0, 0, 0, 0, []⟩
def z82 : HP := .raw (.cells #[.int .i64 0, .int .i64 0, .int .i64 0, .int .i64 0, .int .i64 0, .slice none 0 0] 82 (0, 0))
theorem box_fold {q : Nat} (h : σ.m q = some z82) : To B σ ((σ.set q (.comp (WoR w0 q))).up σ.n) :=
  To.closeO [.slice none 0 0] h ⟨Own.nil, trivial⟩ ⟨by simp -implicitDefEqProofs (disch := first | omega | (simp only [St.set_n, St.up_n, List.length_cons, List.length_nil]; omega)) only [go_sem, Nat.reduceAdd, Nat.reduceMul, Nat.reduceSub, Int.reduceAdd, Int.reduceMul, Int.reduceSub, Int.reduceNeg, Int.reduceToNat], trivial, trivial⟩ fun c x hc hx => ⟨hx, by simp -implicitDefEqProofs (disch := first | omega | (simp only [St.set_n, St.up_n, List.length_cons, List.length_nil]; omega)) only [go_sem, Nat.reduceAdd, Nat.reduceMul, Nat.reduceSub, Int.reduceAdd, Int.reduceMul, Int.reduceSub, Int.reduceNeg, Int.reduceToNat], trivial⟩
theorem two_fold {k : Nat} : ∃ s2, To B (((σ.set k z82).set (k + 1) z82).up (k + 1 + 1)) s2 ∧ s2.m k = some (.comp (WoR w0 k)) ∧ s2.m (k + 1) = some (.comp (WoR w0 (k + 1))) ∧ (∀ c, c < k → s2.m c = σ.m c) ∧ s2.n = k + 2 := by
  have h1 : (((σ.set k z82).set (k + 1) z82).up (k + 1 + 1)).m k = some z82 := by simp -implicitDefEqProofs (disch := first | omega | (simp only [St.set_n, St.up_n, List.length_cons, List.length_nil]; omega)) only [go_sem, Nat.reduceAdd, Nat.reduceMul, Nat.reduceSub, Int.reduceAdd, Int.reduceMul, Int.reduceSub, Int.reduceNeg, Int.reduceToNat]
  refine ⟨_, (box_fold h1).trans (box_fold (q := k + 1) (by simp -implicitDefEqProofs (disch := first | omega | (simp only [St.set_n, St.up_n, List.length_cons, List.length_nil]; omega)) only [go_sem, Nat.reduceAdd, Nat.reduceMul, Nat.reduceSub, Int.reduceAdd, Int.reduceMul, Int.reduceSub, Int.reduceNeg, Int.reduceToNat])), by simp -implicitDefEqProofs (disch := first | omega | (simp only [St.set_n, St.up_n, List.length_cons, List.length_nil]; omega)) only [go_sem, Nat.reduceAdd, Nat.reduceMul, Nat.reduceSub, Int.reduceAdd, Int.reduceMul, Int.reduceSub, Int.reduceNeg, Int.reduceToNat], by simp -implicitDefEqProofs (disch := first | omega | (simp only [St.set_n, St.up_n, List.length_cons, List.length_nil]; omega)) only [go_sem, Nat.reduceAdd, Nat.reduceMul, Nat.reduceSub, Int.reduceAdd, Int.reduceMul, Int.reduceSub, Int.reduceNeg, Int.reduceToNat], fun c hc => by simp -implicitDefEqProofs (disch := first | omega | (simp only [St.set_n, St.up_n, List.length_cons, List.length_nil]; omega)) only [go_sem, Nat.reduceAdd, Nat.reduceMul, Nat.reduceSub, Int.reduceAdd, Int.reduceMul, Int.reduceSub, Int.reduceNeg, Int.reduceToNat], rfl⟩
abbrev ma0 {q : Nat} {th : List (List (Int × Int))} {Bx : Nat → HP → Prop} {fs : Nat → List Value} (hc : Cls B q th Bx fs) (hs : Sm th) : (WY hc hs).MA := ⟨((w0, fun _ => 0) : WS × (Nat → Nat)), [], 0⟩
structure LpI (k1 i : Nat) (e : Fr) : Prop where
  v5 : e.v 5 = .pointer (some ⟨k1, 0, none⟩)
  v6 : e.v 6 = .pointer (some ⟨k1 + 1, 0, none⟩)
  v11 : e.v 11 = .int .i64 i
  d : e.d = []
set_option maxHeartbeats 8000000 in
theorem runs06 {th : List (List (Int × Int))} {tv pv : Value} {picks : List Int} (hv : SlR B 1 (RTh B) th tv) (hp : SlR B 1 RInt picks pv) (hK : ∀ k, σ.n ≤ k → K (.bool true) (σ.up k)) : Fn Try.prog B 9 #[pv, tv] σ K := by
  refine Fn.ofS is9 (by simp) fun hwf => ?_
  have hB := hwf.1
  simp only [b9, Try.f9, Option.getD_some]
  refine SemS.seqw fun _ => ?_
  simp -implicitDefEqProofs (disch := first | omega | (simp only [St.set_n, St.up_n, List.length_cons, List.length_nil]; omega)) only [go_sem, Nat.reduceAdd, Nat.reduceMul, Nat.reduceSub, Int.reduceAdd, Int.reduceMul, Int.reduceSub, Int.reduceNeg, Int.reduceToNat]
  refine SemS.seqw fun _ => ?_
  simp -implicitDefEqProofs (disch := first | omega | (simp only [St.set_n, St.up_n, List.length_cons, List.length_nil]; omega)) only [go_sem, Nat.reduceAdd, Nat.reduceMul, Nat.reduceSub, Int.reduceAdd, Int.reduceMul, Int.reduceSub, Int.reduceNeg, Int.reduceToNat]
  refine callF_wf (awake06 fun k1 hk1 hw1 => ?_)
  simp -implicitDefEqProofs (disch := first | omega | (simp only [St.set_n, St.up_n, List.length_cons, List.length_nil]; omega)) only [go_sem, Nat.reduceAdd, Nat.reduceMul, Nat.reduceSub, Int.reduceAdd, Int.reduceMul, Int.reduceSub, Int.reduceNeg, Int.reduceToNat]
  refine SemS.seqw fun _ => ?_
  simp -implicitDefEqProofs (disch := first | omega | (simp only [St.set_n, St.up_n, List.length_cons, List.length_nil]; omega)) only [go_sem, Nat.reduceAdd, Nat.reduceMul, Nat.reduceSub, Int.reduceAdd, Int.reduceMul, Int.reduceSub, Int.reduceNeg, Int.reduceToNat]
  refine callF_of (great06 hv hp ?_ fun hpl _ hs => ?_)
  · simp -implicitDefEqProofs (disch := first | omega | (simp only [St.set_n, St.up_n, List.length_cons, List.length_nil]; omega)) only [go_sem, Nat.reduceAdd, Nat.reduceMul, Nat.reduceSub, Int.reduceAdd, Int.reduceMul, Int.reduceSub, Int.reduceNeg, Int.reduceToNat]
    exact ⟨_, To.refl _ _, hK _ hk1⟩
  simp -implicitDefEqProofs (disch := first | omega | (simp only [St.set_n, St.up_n, List.length_cons, List.length_nil]; omega)) only [go_sem, Nat.reduceAdd, Nat.reduceMul, Nat.reduceSub, Int.reduceAdd, Int.reduceMul, Int.reduceSub, Int.reduceNeg, Int.reduceToNat]
  refine SemS.seqw fun _ => ?_
  simp -implicitDefEqProofs (disch := first | omega | (simp only [St.set_n, St.up_n, List.length_cons, List.length_nil]; omega)) only [go_sem, Nat.reduceAdd, Nat.reduceMul, Nat.reduceSub, Int.reduceAdd, Int.reduceMul, Int.reduceSub, Int.reduceNeg, Int.reduceToNat]
  obtain ⟨s2, hT, m1, m2, hk2, hn2⟩ := two_fold (B := B) (σ := σ) (k := k1)
  refine SemS.from hT ?_
  refine SemS.seqw fun hws2 => ?_
  simp -implicitDefEqProofs (disch := first | omega | (simp only [St.set_n, St.up_n, List.length_cons, List.length_nil]; omega)) only [go_sem, Nat.reduceAdd, Nat.reduceMul, Nat.reduceSub, Int.reduceAdd, Int.reduceMul, Int.reduceSub, Int.reduceNeg, Int.reduceToNat]
  refine callF_wf (chains06 (RdV.of hv) (fun _ _ h => h.elim) hs fun v s3 hC hk3 hn3 hws3 => ?_)
  have m13 : s3.m k1 = some (.comp (WoR w0 k1)) := (hk3 k1 (by omega)).trans m1
  have m23 : s3.m (k1 + 1) = some (.comp (WoR w0 (k1 + 1))) := (hk3 (k1 + 1) (by omega)).trans m2
  obtain ⟨fs, hc, vs, ho, hvl, hvb, hI⟩ := chr_sys (S := w0) (G := fun c => c < σ.n ∨ c = k1 + 1) hC hs m13 rfl (by omega) (fun c hc => by omega) hn3
  simp -implicitDefEqProofs (disch := first | omega | (simp only [St.set_n, St.up_n, List.length_cons, List.length_nil]; omega)) only [go_sem, Nat.reduceAdd, Nat.reduceMul, Nat.reduceSub, Int.reduceAdd, Int.reduceMul, Int.reduceSub, Int.reduceNeg, Int.reduceToNat]
  have hsn := hs.n
  have hob : ∀ b o, blk v = some b → s3.m b = some (.raw o) → b < s3.n := fun b o _ ho => (hws3.2 _ _ ho).2
  refine callF_wf (m_run hI (show th.length ≤ 1000 by omega) (by omega) ⟨ho.is.imp fun a h => h.imp fun c h => h.1, ho.fc⟩ (fun s4 hs4 => (ho.keepR (σ' := s4) fun b o hb ho' => (hs4 b (hob b o hb ho')).trans ho').fc) hp (R := Sys.loopA 70000 (Sys.picksA (ma0 hc hs) picks)) rfl fun mv vs' s4 om hI4 hn4 hk4 hws4 => ?_)
  obtain ⟨R, hR⟩ : ∃ R, R = loopP th 70000 (picksP th ⟨w0, fun _ => 0, [], 0⟩ picks) := ⟨_, rfl⟩
  have hG0 : GoodP th ⟨w0, fun _ => 0, [], 0⟩ := ⟨hI.ok, by
    show 0 = tot (fun _ => 0) th.length
    induction th.length with
    | zero => rfl
    | succ n ih => rw [tot, ← ih]⟩
  have e1 : cvP (Sys.picksA (ma0 hc hs) picks) = picksP th ⟨w0, fun _ => 0, [], 0⟩ picks := cv_picks picks (ma0 hc hs) hG0
  have hGR : GoodP th R.1 := by rw [hR]; exact (hG0.picks picks).loop 70000 _
  obtain ⟨e2, e3⟩ := cv_loop 70000 (Sys.picksA (ma0 hc hs) picks) (by rw [e1]; exact hG0.picks picks)
  rw [e1, ← hR] at e2 e3
  rw [e3]
  generalize (Sys.loopA 70000 (Sys.picksA (ma0 hc hs) picks)).1 = A at om hI4 e2 ⊢
  have f1 : A.mv = R.1.mv := congrArg RS.mv e2
  have f2 : A.ca = R.1.ca := congrArg RS.ca e2
  have f3 : A.x.1 = R.1.w := congrArg RS.w e2
  rw [f1] at om
  rw [f2]
  obtain ⟨bs, _, hWI, _⟩ := hI4.ch
  have m14 : s4.m k1 = some (.comp (WoR R.1.w k1)) := f3 ▸ hWI.at_
  have m24 : s4.m (k1 + 1) = some (.comp (WoR w0 (k1 + 1))) := hk4 _ _ (.inr rfl) m23
  have ho4 : ∀ c y, c < σ.n → σ.m c = some y → s4.m c = some y := fun c y hcn hx => hk4 c y (.inl hcn) ((hk3 c (by omega)).trans ((hk2 c (by omega)).trans hx))
  obtain ⟨Am, cm, rfl, _⟩ := om.is
  simp -implicitDefEqProofs (disch := first | omega | (simp only [St.set_n, St.up_n, List.length_cons, List.length_nil]; omega)) only [go_sem, Nat.reduceAdd, Nat.reduceMul, Nat.reduceSub, Int.reduceAdd, Int.reduceMul, Int.reduceSub, Int.reduceNeg, Int.reduceToNat]
  have hx7 : ((s4.set s4.n (.raw (.cells #[.slice Am R.1.mv.length cm, .int .i64 R.1.ca, .int .i64 R.2] 84 (0, 0)))).up (s4.n + 1)).m s4.n = some (.raw (.cells #[.slice Am R.1.mv.length cm, .int .i64 R.1.ca, .int .i64 R.2] 84 (0, 0))) := by simp -implicitDefEqProofs (disch := first | omega | (simp only [St.set_n, St.up_n, List.length_cons, List.length_nil]; omega)) only [go_sem, Nat.reduceAdd, Nat.reduceMul, Nat.reduceSub, Int.reduceAdd, Int.reduceMul, Int.reduceSub, Int.reduceNeg, Int.reduceToNat]
  have hk5 : ∀ c y, s4.m c = some y → ((s4.set s4.n (.raw (.cells #[.slice Am R.1.mv.length cm, .int .i64 R.1.ca, .int .i64 R.2] 84 (0, 0)))).up (s4.n + 1)).m c = some y := fun c y hx => by
    have := (hws4.2 _ _ hx).2
    simp -implicitDefEqProofs (disch := first | omega | (simp only [St.set_n, St.up_n, List.length_cons, List.length_nil]; omega)) only [go_sem, Nat.reduceAdd, Nat.reduceMul, Nat.reduceSub, Int.reduceAdd, Int.reduceMul, Int.reduceSub, Int.reduceNeg, Int.reduceToNat, hx]
  have hn5 : ((s4.set s4.n (.raw (.cells #[.slice Am R.1.mv.length cm, .int .i64 R.1.ca, .int .i64 R.2] 84 (0, 0)))).up (s4.n + 1)).n = s4.n + 1 := rfl
  generalize (s4.set s4.n (.raw (.cells #[.slice Am R.1.mv.length cm, .int .i64 R.1.ca, .int .i64 R.2] 84 (0, 0)))).up (s4.n + 1) = s5 at hx7 hk5 hn5 ⊢
  have m15 := hk5 _ _ m14
  have m25 := hk5 _ _ m24
  have ho5 : ∀ c y, c < σ.n → σ.m c = some y → s5.m c = some y := fun c y hcn hx => hk5 c y (ho4 c y hcn hx)
  have om5 := om.keepR fun b o _ ho' => hk5 b _ ho'
  refine SemS.seqw fun hws5 => ?_
  simp -implicitDefEqProofs (disch := first | omega | (simp only [St.set_n, St.up_n, List.length_cons, List.length_nil]; omega)) only [go_sem, Nat.reduceAdd, Nat.reduceMul, Nat.reduceSub, Int.reduceAdd, Int.reduceMul, Int.reduceSub, Int.reduceNeg, Int.reduceToNat]
  refine callF_wf (ref06 hv hp hs (by omega) m25 rfl hR.symm fun mv2 s6 om2 m26 hb2 hk6 hn6 hws6 => ?_)
  have hlt5 : ∀ c y, s5.m c = some y → c < s5.n := fun c y hx => (hws5.2 _ _ hx).2
  have m16 : s6.m k1 = some (.comp (WoR R.1.w k1)) := (hk6 k1 (hlt5 _ _ m15) (by omega)).trans m15
  have hk6' : ∀ c o, s5.m c = some (.raw o) → s6.m c = some (.raw o) := fun c o hx => (hk6 c (hlt5 _ _ hx) fun e => by rw [e, m25] at hx; cases hx).trans hx
  have hx76 := hk6' _ _ hx7
  have om6 := om5.keepR fun b o _ ho' => hk6' b _ ho'
  have ho6 : ∀ c y, c < σ.n → σ.m c = some y → s6.m c = some y := fun c y hcn hx => (hk6 c (hlt5 _ _ (ho5 c y hcn hx)) (by omega)).trans (ho5 c y hcn hx)
  obtain ⟨Am2, cm2, rfl, _⟩ := om2.is
  simp -implicitDefEqProofs (disch := first | omega | (simp only [St.set_n, St.up_n, List.length_cons, List.length_nil]; omega)) only [go_sem, Nat.reduceAdd, Nat.reduceMul, Nat.reduceSub, Int.reduceAdd, Int.reduceMul, Int.reduceSub, Int.reduceNeg, Int.reduceToNat]
  refine SemS.openO m16 fun vv τ1 hwt1 hnt1 hO1 hf1 => ?_
  have m2t : τ1.m (k1 + 1) = some (.comp (WoR R.1.w (k1 + 1))) := (hf1 _ _ (by omega) m26).1
  refine SemS.openO m2t fun vv2 τ2 hwt2 hnt2 hO2 hf2 => ?_
  obtain ⟨v1, rfl, o1⟩ := hO1.own.one
  obtain ⟨v2, rfl, o2⟩ := hO2.own.one
  have hr1 := (hf2 _ _ (by omega) hO1.root).1
  have hr2 := hO2.root
  simp only [woRoot_one] at hr1 hr2
  obtain ⟨A1, c1, rfl, _⟩ := o1.is
  obtain ⟨A2, c2, rfl, _⟩ := o2.is
  have hkt : ∀ c o, s6.m c = some (.raw o) → τ2.m c = some (.raw o) := fun c o hx => by
    have n1 : c ≠ k1 := fun e => by rw [e, m16] at hx; cases hx
    have n2 : c ≠ k1 + 1 := fun e => by rw [e, m26] at hx; cases hx
    exact (hf2 c _ n2 (hf1 c _ n1 hx).1).1
  have ho1 : ∀ c y, c < σ.n → σ.m c = some y → τ2.m c = some y := fun c y hcn hx => (hf2 c y (by omega) (hf1 c y (by omega) (ho6 c y hcn hx)).1).1
  have o1' := o1.keepR (σ' := τ2) fun b o hb ho' => (hf2 b _ (fun e => by rw [e] at ho'; rw [m2t] at ho'; cases ho') ho').1
  have hx7t := hkt _ _ hx76
  have omt := om6.keepR fun b o _ ho' => hkt b _ ho'
  have omt2 := om2.keepR fun b o _ ho' => hkt b _ ho'
  have hlen := (hGR.le hs).1
  have hD := (hGR.le hs).2
  have hq71 := neq71 R.1.w.l0 R.1.w.l1 R.1.w.l2 R.1.w.l3
  refine SemS.seqw fun _ => ?_
  simp -implicitDefEqProofs (disch := first | omega | (simp only [St.set_n, St.up_n, List.length_cons, List.length_nil]; omega)) only [go_sem, Nat.reduceAdd, Nat.reduceMul, Nat.reduceSub, Int.reduceAdd, Int.reduceMul, Int.reduceSub, Int.reduceNeg, Int.reduceToNat, hx7t, hr1, hr2]
  refine effD_plan [0, 1, 0, 7, 15, 31, 63, 127, 63, 511, 1023, 2047, 4095, 8191, 4095, 32767, 65535, 131071, 262143, 524287, 1048575, 2097151, 262143, 4456447, 12845055, 29622271, 67108863, 134217727, 268435455, 536870911, 1073741823, 2147483647, 4294967295, 536870911, 9126805503, 26306674687, 60666413055, 137438953471, 274877906943, 549755813887, 1099511627775, 2199023255551, 4398046511103, 8796093022207, 17592186044415, 1099511627775, 36283883716607, 106652627894271, 247390116249599, 528865092960255, 1125899906842623, 2251799813685247] [0, 1, 2, 4, 5, 6, 7, 8, 9, 10, 11, 12, 13, 14, 15, 16, 17, 18, 19, 20, 21, 22, 23, 24, 25, 26, 27, 28, 29, 30, 31, 32, 33, 34, 35, 36, 37, 38, 39, 40, 41, 42, 43, 44, 45, 46, 47, 48, 49, 50, 51] (.eag 0 (.eagq 1 (.eag 2 (.alt 3 [] (.eag 4 (.eag 5 (.eag 6 (.eagq 7 (.eag 8 (.eag 9 (.eag 10 (.eag 11 (.eag 12 (.eagq 13 (.eag 14 (.eag 15 (.eag 16 (.eag 17 (.eag 18 (.eag 19 (.eag 20 (.eagq 21 (.eag 22 (.eag 23 (.eag 24 (.eagq 25 (.eag 26 (.eag 27 (.eag 28 (.eag 29 (.eag 30 (.eag 31 (.eagq 32 (.eag 33 (.eag 34 (.eag 35 (.eagq 36 (.eag 37 (.eag 38 (.eag 39 (.eag 40 (.eag 41 (.eag 42 (.eagq 43 (.eagq 44 (.eag 45 (.eag 46 (.eag 47 (.eagq 48 (.eagq 49 (.eag 50 (.eag 51 .fin)))))))))))))))))))))))))))))))))))))))))))))))) .stop)))) (by kernel_rfl) ?_
  simp -implicitDefEqProofs (disch := first | omega | (simp only [St.set_n, St.up_n, List.length_cons, List.length_nil]; omega)) only [go_sem, Nat.reduceAdd, Nat.reduceMul, Nat.reduceSub, Int.reduceAdd, Int.reduceMul, Int.reduceSub, Int.reduceNeg, Int.reduceToNat, hx7t, hr1, hr2]
  refine callF_of (same_ints (by omega) omt omt2 ?_)
  simp only [decide_true]
  simp -implicitDefEqProofs (disch := first | omega | (simp only [St.set_n, St.up_n, List.length_cons, List.length_nil]; omega)) only [go_sem, Nat.reduceAdd, Nat.reduceMul, Nat.reduceSub, Int.reduceAdd, Int.reduceMul, Int.reduceSub, Int.reduceNeg, Int.reduceToNat, hx7t, hr1, hr2, hq71]
  have hfin : ∃ σ'', To B τ2 σ'' ∧ K (.bool true) σ'' := ⟨_, To.same (fun c y hc hx => ho1 c y hc hx) hwf, hK _ (by omega)⟩
  refine SemS.wp fun _ => ?_
  simp -implicitDefEqProofs (disch := first | omega | (simp only [St.set_n, St.up_n, List.length_cons, List.length_nil]; omega)) only [go_sem, Nat.reduceAdd, Nat.reduceMul, Nat.reduceSub, Int.reduceAdd, Int.reduceMul, Int.reduceSub, Int.reduceNeg, Int.reduceToNat]
  refine loop_rule (fun m e s => ∃ i : Nat, m = R.1.w.D.length - i ∧ i ≤ R.1.w.D.length ∧ LpI k1 i e ∧ s = τ2) R.1.w.D.length ?_ ?_
  · exact ⟨0, by omega, by omega, ⟨by simp -implicitDefEqProofs (disch := first | omega | (simp only [St.set_n, St.up_n, List.length_cons, List.length_nil]; omega)) only [go_sem, Nat.reduceAdd, Nat.reduceMul, Nat.reduceSub, Int.reduceAdd, Int.reduceMul, Int.reduceSub, Int.reduceNeg, Int.reduceToNat], by simp -implicitDefEqProofs (disch := first | omega | (simp only [St.set_n, St.up_n, List.length_cons, List.length_nil]; omega)) only [go_sem, Nat.reduceAdd, Nat.reduceMul, Nat.reduceSub, Int.reduceAdd, Int.reduceMul, Int.reduceSub, Int.reduceNeg, Int.reduceToNat], by simp -implicitDefEqProofs (disch := first | omega | (simp only [St.set_n, St.up_n, List.length_cons, List.length_nil]; omega)) only [go_sem, Nat.reduceAdd, Nat.reduceMul, Nat.reduceSub, Int.reduceAdd, Int.reduceMul, Int.reduceSub, Int.reduceNeg, Int.reduceToNat]; rfl, by simp -implicitDefEqProofs (disch := first | omega | (simp only [St.set_n, St.up_n, List.length_cons, List.length_nil]; omega)) only [go_sem, Nat.reduceAdd, Nat.reduceMul, Nat.reduceSub, Int.reduceAdd, Int.reduceMul, Int.reduceSub, Int.reduceNeg, Int.reduceToNat]⟩, rfl⟩
  rintro m e s hws ⟨i, hm, hi, ⟨q5, q6, q11, hd⟩, rfl⟩
  by_cases hlt : (i : Int) < R.1.w.D.length
  · obtain ⟨d, hd'⟩ : ∃ d, R.1.w.D[i]? = some d := ⟨R.1.w.D[i]'(by omega), List.getElem?_eq_getElem (by omega)⟩
    obtain ⟨b1, c1', sp1, e1', hc1, n1, _, _⟩ := o1'.has (by simp only; omega)
    cases e1'
    obtain ⟨b2, c2', sp2, e2', hc2, n2, _, _⟩ := o2.has (by simp only; omega)
    cases e2'
    have g10 : (flat fD R.1.w.D ++ sp1)[i * 3]? = some (.int .i64 d.1) := flat_get fD_len R.1.w.D sp1 i d 0 _ hd' rfl
    have g11 : (flat fD R.1.w.D ++ sp1)[i * 3 + 1]? = some (.int .i64 d.2.1) := flat_get fD_len R.1.w.D sp1 i d 1 _ hd' rfl
    have g12 : (flat fD R.1.w.D ++ sp1)[i * 3 + 2]? = some (.int .i64 d.2.2) := flat_get fD_len R.1.w.D sp1 i d 2 _ hd' rfl
    have g20 : (flat fD R.1.w.D ++ sp2)[i * 3]? = some (.int .i64 d.1) := flat_get fD_len R.1.w.D sp2 i d 0 _ hd' rfl
    have g21 : (flat fD R.1.w.D ++ sp2)[i * 3 + 1]? = some (.int .i64 d.2.1) := flat_get fD_len R.1.w.D sp2 i d 1 _ hd' rfl
    have g22 : (flat fD R.1.w.D ++ sp2)[i * 3 + 2]? = some (.int .i64 d.2.2) := flat_get fD_len R.1.w.D sp2 i d 2 _ hd' rfl
    have hq90 := neq90 d.1 d.2.1 d.2.2
    simp -implicitDefEqProofs (disch := first | omega | (simp only [St.set_n, St.up_n, List.length_cons, List.length_nil]; omega)) only [go_sem, Nat.reduceAdd, Nat.reduceMul, Nat.reduceSub, Int.reduceAdd, Int.reduceMul, Int.reduceSub, Int.reduceNeg, Int.reduceToNat, q5, q6, q11, hr1, hr2, hlt, n1, n2, g10, g11, g12, g20, g21, g22, hq90]
    exact ⟨_, by omega, i + 1, rfl, by omega, ⟨by simp -implicitDefEqProofs (disch := first | omega | (simp only [St.set_n, St.up_n, List.length_cons, List.length_nil]; omega)) only [go_sem, Nat.reduceAdd, Nat.reduceMul, Nat.reduceSub, Int.reduceAdd, Int.reduceMul, Int.reduceSub, Int.reduceNeg, Int.reduceToNat, q5], by simp -implicitDefEqProofs (disch := first | omega | (simp only [St.set_n, St.up_n, List.length_cons, List.length_nil]; omega)) only [go_sem, Nat.reduceAdd, Nat.reduceMul, Nat.reduceSub, Int.reduceAdd, Int.reduceMul, Int.reduceSub, Int.reduceNeg, Int.reduceToNat, q6], by simp -implicitDefEqProofs (disch := first | omega | (simp only [St.set_n, St.up_n, List.length_cons, List.length_nil]; omega)) only [go_sem, Nat.reduceAdd, Nat.reduceMul, Nat.reduceSub, Int.reduceAdd, Int.reduceMul, Int.reduceSub, Int.reduceNeg, Int.reduceToNat]; rfl, by simp -implicitDefEqProofs (disch := first | omega | (simp only [St.set_n, St.up_n, List.length_cons, List.length_nil]; omega)) only [go_sem, Nat.reduceAdd, Nat.reduceMul, Nat.reduceSub, Int.reduceAdd, Int.reduceMul, Int.reduceSub, Int.reduceNeg, Int.reduceToNat, hd]⟩⟩
  · simp -implicitDefEqProofs (disch := first | omega | (simp only [St.set_n, St.up_n, List.length_cons, List.length_nil]; omega)) only [go_sem, Nat.reduceAdd, Nat.reduceMul, Nat.reduceSub, Int.reduceAdd, Int.reduceMul, Int.reduceSub, Int.reduceNeg, Int.reduceToNat, q5, q6, q11, hr1, hr2, hlt, hd]
    exact hfin
end
end Go.Proofs.Ytgcojbgkenndhaa
