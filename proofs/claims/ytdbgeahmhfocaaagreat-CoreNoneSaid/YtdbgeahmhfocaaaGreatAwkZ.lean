/- The document's example of a core: the walk. -/
import Derived.Test.YtdbgeahmhfocaaaGreatAwk22
namespace Go.Proofs.YtdbgeahmhfocaaaGreat
set_option linter.unusedSimpArgs false
set_option linter.unusedVariables false
set_option maxRecDepth 100000
open Go Go.RowKit
section
variable {B : World} {σ : St} {K : Value → St → Prop}
theorem coI0 {q : CB} {lp nr rn : Nat} {R : Nat → RgS} {rr rb : Nat → Nat} {w : Value} {s : St} (h : CoreI q nr rn R rr rb w s) (hl : s.m lp = some (.comp (LogR ⟨[], 0⟩ lp))) (hlp : q.c < lp)
    (he : σ.n ≤ q.e) (hg : σ.n ≤ q.g) (hb : σ.n ≤ q.b) (old : ∀ c y, σ.m c = some y → s.m c = some y) (hn : σ.n ≤ s.n) : OW σ (coH q lp nr rn rr rb (coF q w s)) ⟨fun _ => (0, 0, 0), ⟨[], 0⟩, R⟩ s := by
  have hd := h.coD (.inr ⟨_, hl⟩)
  have hle := h.le
  refine ⟨fun c y hc => ?_, old, hn⟩
  rcases coH_cases hd hc with rfl | rfl | ⟨i, hi, rfl⟩ | ⟨i, hi, rfl⟩ | ⟨hF, h1, h2, h3⟩
  · rw [coH_b] at hc
    refine ⟨h.lk.trans ?_, by omega⟩
    rw [← hc]; rfl
  · rw [coH_lp hd] at hc
    exact ⟨hl.trans hc, by omega⟩
  · rw [coH_rr hd hi] at hc
    have := h.ord i hi
    exact ⟨(h.ring i hi).root.trans hc, by omega⟩
  · rw [coH_rb hd hi] at hc
    have := h.ord i hi
    exact ⟨(h.ring i hi).row.trans hc, by omega⟩
  · unfold Go.Proofs.YtdbgeahmhfocaaaGreat.coF at hF
    split at hF
    · rename_i hcc
      refine ⟨hF, ?_⟩
      rcases hcc with rfl | rfl | rfl | hb'
      · omega
      · omega
      · omega
      · have := (h.hb c hb').1; omega
    · cases hF
theorem fOp_len (o : COp) : (fOp o).length = 5 := rfl
theorem opsV_flat {L : Lg B} {h : HF} (ops : List COp) {b cap : Nat} {sp : List Value} {ty : TypeId} (hm : ∀ G u s, Env L h G u s → s.m b = some (.raw (.cells (flat fOp ops ++ sp).toArray ty (0, 0)))) (hc : ops.length ≤ cap) : OpsV L h (.slice (some ⟨b, 0, none⟩) ops.length cap) ops := by
  refine ⟨⟨_, cap, rfl, hc, fun _ => ⟨b, 0, _, ty, rfl, hm, fun j op hj k v hv => ?_⟩⟩⟩
  rw [Nat.zero_add, List.getElem?_toArray]
  exact flat_get fOp_len ops sp j op k v hj hv
theorem aw_lit {d : Option Tmp} {K : Fr → St → Prop} {e : Fr} {s : St} (h : K (e.put d (.slice (some ⟨s.n, 0, none⟩) 2 2)) ((s.set s.n (.raw (.cells (flat fOp [awO, awO]).toArray 48 (0, 0)))).up (s.n + 1))) :
    bslK Tryz.prog 46 2 [(0, .agg #[.int .i64 4, .int .i64 1, .string ⟨#[]⟩, .string ⟨#[]⟩, .bool false]), (1, .agg #[.int .i64 4, .int .i64 1, .string ⟨#[]⟩, .string ⟨#[]⟩, .bool false])] d K e s := by
  unfold bslK bsl bindK
  refine ⟨_, se46, _, zr48, by omega, (flat fOp [awO, awO]).toArray, by kernel_rfl, h⟩
set_option maxHeartbeats 4000000 in
theorem awake22 (hK : ∀ k, σ.n ≤ k → K (.bool true) (σ.up k)) : Fn Tryz.prog B 5 #[] σ K := by
  refine Fn.ofS is5 (by simp) fun hwf => ?_
  have hB := hwf.1
  simp only [b5, Tryz.f5, Option.getD_some]
  refine SemS.seqw fun _ => ?_
  simp -implicitDefEqProofs (disch := first | omega | (simp only [St.set_n, St.up_n, List.length_cons, List.length_nil]; omega)) only [go_sem, Nat.reduceAdd, Nat.reduceMul, Nat.reduceSub, Int.reduceAdd, Int.reduceMul, Int.reduceSub, Int.reduceNeg, Int.reduceToNat]
  refine SemS.seqw fun _ => ?_
  simp -implicitDefEqProofs (disch := first | omega | (simp only [St.set_n, St.up_n, List.length_cons, List.length_nil]; omega)) only [go_sem, Nat.reduceAdd, Nat.reduceMul, Nat.reduceSub, Int.reduceAdd, Int.reduceMul, Int.reduceSub, Int.reduceNeg, Int.reduceToNat]
  refine callF_wf (core_new fun q rr rb w τ hNew hwτ _ => ?_)
  have hcn : coreN 1 = 1 := rfl
  have hrn : roomN 2 = 2 := rfl
  rw [hcn, hrn] at hNew
  have hC := hNew.coreI
  simp -implicitDefEqProofs (disch := first | omega | (simp only [St.set_n, St.up_n, List.length_cons, List.length_nil]; omega)) only [go_sem, Nat.reduceAdd, Nat.reduceMul, Nat.reduceSub, Int.reduceAdd, Int.reduceMul, Int.reduceSub, Int.reduceNeg, Int.reduceToNat]
  refine SemS.seqw fun _ => ?_
  simp -implicitDefEqProofs (disch := first | omega | (simp only [St.set_n, St.up_n, List.length_cons, List.length_nil]; omega)) only [go_sem, Nat.reduceAdd, Nat.reduceMul, Nat.reduceSub, Int.reduceAdd, Int.reduceMul, Int.reduceSub, Int.reduceNeg, Int.reduceToNat]
  have e0 : (#[.string ⟨#[97]⟩, .string ⟨#[120]⟩, .bool false] : Array Value) = (fM awM).toArray := rfl
  rw [e0]
  refine callF_wf (put_of hC (by omega) (sub := 1) (fun j hj => rfl) fun s1 hC1 hn1 hk1 hw1 _ => ?_)
  have e1 : (if (1 : Int) ≤ 1 ∧ (1 : Int) ≤ (1 : Nat) then updL (fun _ => (⟨[], 0, 0⟩ : RgS)) ((1 : Int) - 1).toNat (putR 2 ⟨[], 0, 0⟩ awM) else fun _ => ⟨[], 0, 0⟩) = awR := rfl
  rw [e1] at hC1
  simp -implicitDefEqProofs (disch := first | omega | (simp only [St.set_n, St.up_n, List.length_cons, List.length_nil]; omega)) only [go_sem, Nat.reduceAdd, Nat.reduceMul, Nat.reduceSub, Int.reduceAdd, Int.reduceMul, Int.reduceSub, Int.reduceNeg, Int.reduceToNat]
  refine SemS.seqw fun _ => ?_
  simp -implicitDefEqProofs (disch := first | omega | (simp only [St.set_n, St.up_n, List.length_cons, List.length_nil]; omega)) only [go_sem, Nat.reduceAdd, Nat.reduceMul, Nat.reduceSub, Int.reduceAdd, Int.reduceMul, Int.reduceSub, Int.reduceNeg, Int.reduceToNat]
  refine callF_wf (log_new fun k hk hwl => ?_)
  simp -implicitDefEqProofs (disch := first | omega | (simp only [St.set_n, St.up_n, List.length_cons, List.length_nil]; omega)) only [go_sem, Nat.reduceAdd, Nat.reduceMul, Nat.reduceSub, Int.reduceAdd, Int.reduceMul, Int.reduceSub, Int.reduceNeg, Int.reduceToNat]
  refine SemS.seqw fun _ => ?_
  simp -implicitDefEqProofs (disch := first | omega | (simp only [St.set_n, St.up_n, List.length_cons, List.length_nil]; omega)) only [go_sem, Nat.reduceAdd, Nat.reduceMul, Nat.reduceSub, Int.reduceAdd, Int.reduceMul, Int.reduceSub, Int.reduceNeg, Int.reduceToNat]
  refine aw_lit ?_
  have hk2 : ∀ c y, s1.m c = some y → ((s1.set s1.n (.comp (LogR ⟨[], 0⟩ s1.n))).up k).m c = some y := fun c y hx => by
    have := (hw1.2 _ _ hx).2
    simp -implicitDefEqProofs (disch := first | omega | (simp only [St.set_n, St.up_n, List.length_cons, List.length_nil]; omega)) only [go_sem, Nat.reduceAdd, Nat.reduceMul, Nat.reduceSub, Int.reduceAdd, Int.reduceMul, Int.reduceSub, Int.reduceNeg, Int.reduceToNat, hx]
  have hml : ((s1.set s1.n (.comp (LogR ⟨[], 0⟩ s1.n))).up k).m s1.n = some (.comp (LogR ⟨[], 0⟩ s1.n)) := by simp -implicitDefEqProofs (disch := first | omega | (simp only [St.set_n, St.up_n, List.length_cons, List.length_nil]; omega)) only [go_sem, Nat.reduceAdd, Nat.reduceMul, Nat.reduceSub, Int.reduceAdd, Int.reduceMul, Int.reduceSub, Int.reduceNeg, Int.reduceToNat]
  have hn2 : ((s1.set s1.n (.comp (LogR ⟨[], 0⟩ s1.n))).up k).n = k := rfl
  simp -implicitDefEqProofs (disch := first | omega | (simp only [St.set_n, St.up_n, List.length_cons, List.length_nil]; omega)) only [go_sem, Nat.reduceAdd, Nat.reduceMul, Nat.reduceSub, Int.reduceAdd, Int.reduceMul, Int.reduceSub, Int.reduceNeg, Int.reduceToNat]
  have hk3 : ∀ c, c < k → (((s1.set s1.n (.comp (LogR ⟨[], 0⟩ s1.n))).set k (.raw (.cells (flat fOp [awO, awO]).toArray 48 (0, 0)))).up (k + 1)).m c = ((s1.set s1.n (.comp (LogR ⟨[], 0⟩ s1.n))).up k).m c := fun c hc => by simp -implicitDefEqProofs (disch := first | omega | (simp only [St.set_n, St.up_n, List.length_cons, List.length_nil]; omega)) only [go_sem, Nat.reduceAdd, Nat.reduceMul, Nat.reduceSub, Int.reduceAdd, Int.reduceMul, Int.reduceSub, Int.reduceNeg, Int.reduceToNat]
  have hw3 : (((s1.set s1.n (.comp (LogR ⟨[], 0⟩ s1.n))).set k (.raw (.cells (flat fOp [awO, awO]).toArray 48 (0, 0)))).up (k + 1)).wf B := set_wf1 (y := .raw (.cells (flat fOp [awO, awO]).toArray 48 (0, 0))) hwl
  have hmo : (((s1.set s1.n (.comp (LogR ⟨[], 0⟩ s1.n))).set k (.raw (.cells (flat fOp [awO, awO]).toArray 48 (0, 0)))).up (k + 1)).m k = some (.raw (.cells (flat fOp [awO, awO]).toArray 48 (0, 0))) := by simp -implicitDefEqProofs (disch := first | omega | (simp only [St.set_n, St.up_n, List.length_cons, List.length_nil]; omega)) only [go_sem, Nat.reduceAdd, Nat.reduceMul, Nat.reduceSub, Int.reduceAdd, Int.reduceMul, Int.reduceSub, Int.reduceNeg, Int.reduceToNat]
  have hn3 : (((s1.set s1.n (.comp (LogR ⟨[], 0⟩ s1.n))).set k (.raw (.cells (flat fOp [awO, awO]).toArray 48 (0, 0)))).up (k + 1)).n = k + 1 := rfl
  generalize (((s1.set s1.n (.comp (LogR ⟨[], 0⟩ s1.n))).set k (.raw (.cells (flat fOp [awO, awO]).toArray 48 (0, 0)))).up (k + 1)) = s3 at hk3 hw3 hmo hn3 ⊢
  generalize ((s1.set s1.n (.comp (LogR ⟨[], 0⟩ s1.n))).up k) = s2 at hk2 hml hn2 hk3 hwl
  have hcl : q.c < s1.n := by obtain ⟨p, ro, a0, a1, a2, a3, hc⟩ := hC1.core; exact (hw1.2 _ _ hc).2
  have hlow : ∀ j, j < 1 → ∀ c y, σ.m c = some y → c ≠ rr j ∧ c ≠ rb j := fun j hj c y hx => by
    have := hC.ord j hj
    have := (hwf.2 _ _ hx).2
    have := hNew.le
    omega
  have hOW := coI0 (σ := σ) (hC1.keep hk2) hml hcl hNew.le.1 hNew.lg.1 hNew.lb.1 (fun c y hx => hk2 _ _ (hk1 c y (fun j hj => hlow j hj c y hx) (hNew.keep c y hx))) (by have := hNew.n; omega)
  have hYW := coYW (rn := 2) ((hC1.keep hk2).coD (lp := s1.n) (.inr ⟨_, hml⟩)) (by omega) (by omega) (by omega) ((hC1.keep hk2).coF (.inr ⟨_, hml⟩) (by have := hC1.le; omega))
  generalize coH q s1.n 1 2 rr rb (coF q w s2) = H at hOW hYW
  have hI := OW.lgi (B := B) (ex := exC 1) (pre := preC 2) hOW
  obtain ⟨G', hG', hE, hfin⟩ := hI.fork hwl (fun c hc => hk3 c (by omega)) (by omega) hw3
  have hops : OpsV (cL (B := B) 1 2 H) (grow noH s2 s3) (.slice (some ⟨k, 0, none⟩) 2 2) [awO, awO] := by
    refine opsV_flat [awO, awO] (sp := []) (cap := 2) (ty := 48) (fun G u s he => ?_) (by simp)
    rw [List.append_nil]; exact he.sub _ _ (gro (by omega) hmo)
  refine callF_of (thread_of hYW (t := 0) (by omega) [awO, awO] _ G' _ s3 _ _ hops hE fun v s4 ha hw4 => ?_)
  have hI4 := hfin _ _ _ _ ha
  have hvS := hI4.stepV (v := v) (by simp)
  simp -implicitDefEqProofs (disch := first | omega | (simp only [St.set_n, St.up_n, List.length_cons, List.length_nil]; omega)) only [go_sem, Nat.reduceAdd, Nat.reduceMul, Nat.reduceSub, Int.reduceAdd, Int.reduceMul, Int.reduceSub, Int.reduceNeg, Int.reduceToNat, hvS.one.1, hvS.one.2]
  have hk5 : ∀ c y, s4.m c = some y → ((s4.set s4.n (.raw (.cells #[v] 50 (0, 0)))).up (s4.n + 1)).m c = some y := fun c y hx => by
    have := (hw4.2 _ _ hx).2
    simp -implicitDefEqProofs (disch := first | omega | (simp only [St.set_n, St.up_n, List.length_cons, List.length_nil]; omega)) only [go_sem, Nat.reduceAdd, Nat.reduceMul, Nat.reduceSub, Int.reduceAdd, Int.reduceMul, Int.reduceSub, Int.reduceNeg, Int.reduceToNat, hx]
  have hm5 : ((s4.set s4.n (.raw (.cells #[v] 50 (0, 0)))).up (s4.n + 1)).m s4.n = some (.raw (.cells [v].toArray 50 (0, 0))) := by simp -implicitDefEqProofs (disch := first | omega | (simp only [St.set_n, St.up_n, List.length_cons, List.length_nil]; omega)) only [go_sem, Nat.reduceAdd, Nat.reduceMul, Nat.reduceSub, Int.reduceAdd, Int.reduceMul, Int.reduceSub, Int.reduceNeg, Int.reduceToNat]
  have hn5 : s4.n < ((s4.set s4.n (.raw (.cells #[v] 50 (0, 0)))).up (s4.n + 1)).n := by simp only [St.up_n]; omega
  generalize (s4.set s4.n (.raw (.cells #[v] 50 (0, 0)))).up (s4.n + 1) = s5 at hk5 hm5 hn5 ⊢
  have hI5 := LgI.keep hI4 hk5 (by omega)
  obtain ⟨R, hR⟩ : ∃ R, Sys.loopA (Y := awS B H) 70000 (Sys.picksA ⟨awX, [], 0⟩ []) = R := ⟨_, rfl⟩
  obtain ⟨r1, r2⟩ := awr (B := B) (H := H)
  rw [hR] at r1 r2
  refine callF_wf (m_run (Y := awS B H) (x0 := awX) (vs := [v]) ⟨hI5, 0, by omega, rfl⟩ (show (1 : Nat) ≤ 1000 by omega) (by simp) ⟨⟨_, _, rfl⟩, fc_block hm5 rfl⟩ (fun s hs => fc_block (by rw [hs _ hn5]; exact hm5) rfl) slR_nil hR fun mv vs' s6 om hI6 hn6 hk6 hw6 => ?_)
  rw [r1]
  obtain ⟨Am, cm, rfl, _⟩ := om.is
  have hlg := LgI.at (H := H) hI6.1 (hYW.log _)
  rw [r2] at hlg
  have hlgn := (hw6.2 _ _ hlg).2
  simp only at hlg hlgn
  have hσ6 : ∀ c y, σ.m c = some y → s6.m c = some y := fun c y hx => by
    have h1 := (hwf.2 _ _ hx).2
    refine hk6 c y h1 (hk5 _ _ (ha.keep c y (hG' c h1) ?_))
    have h2 := hOW.old c y hx
    have := (hwl.2 _ _ h2).2
    rw [hk3 c (by omega)]; exact h2
  simp -implicitDefEqProofs (disch := first | omega | (simp only [St.set_n, St.up_n, List.length_cons, List.length_nil]; omega)) only [go_sem, Nat.reduceAdd, Nat.reduceMul, Nat.reduceSub, Int.reduceAdd, Int.reduceMul, Int.reduceSub, Int.reduceNeg, Int.reduceToNat]
  refine SemS.seqw fun _ => ?_
  simp -implicitDefEqProofs (disch := first | omega | (simp only [St.set_n, St.up_n, List.length_cons, List.length_nil]; omega)) only [go_sem, Nat.reduceAdd, Nat.reduceMul, Nat.reduceSub, Int.reduceAdd, Int.reduceMul, Int.reduceSub, Int.reduceNeg, Int.reduceToNat]
  have hn6' : σ.n ≤ s6.n := by have := ha.n; have := hNew.n; omega
  refine callF_wf (log_calls (S := awL) (by simp -implicitDefEqProofs (disch := first | omega | (simp only [St.set_n, St.up_n, List.length_cons, List.length_nil]; omega)) only [go_sem, Nat.reduceAdd, Nat.reduceMul, Nat.reduceSub, Int.reduceAdd, Int.reduceMul, Int.reduceSub, Int.reduceNeg, Int.reduceToNat, hlg]) (by simp [awL]) fun vc s7 ov hk7 hn7 hb7 hw7 => ?_)
  simp only [St.up_n] at hn7 hb7
  have htr := (hk7 s6.n (.raw (.cells #[.slice Am R.1.mv.length cm, .int .i64 R.1.ca, .int .i64 0] 54 (0, 0))) (by simp -implicitDefEqProofs (disch := first | omega | (simp only [St.set_n, St.up_n, List.length_cons, List.length_nil]; omega)) only [go_sem, Nat.reduceAdd, Nat.reduceMul, Nat.reduceSub, Int.reduceAdd, Int.reduceMul, Int.reduceSub, Int.reduceNeg, Int.reduceToNat])).1
  have hσ7 : ∀ c y, σ.m c = some y → s7.m c = some y := fun c y hx => by
    have h1 := hσ6 c y hx
    have := (hw6.2 _ _ h1).2
    exact (hk7 c y (by simp -implicitDefEqProofs (disch := first | omega | (simp only [St.set_n, St.up_n, List.length_cons, List.length_nil]; omega)) only [go_sem, Nat.reduceAdd, Nat.reduceMul, Nat.reduceSub, Int.reduceAdd, Int.reduceMul, Int.reduceSub, Int.reduceNeg, Int.reduceToNat, h1])).1
  have e3 : (!(awL.l.any fun c => decide (c.to = 0))) = true := by kernel_rfl
  rw [e3]
  simp -implicitDefEqProofs (disch := first | omega | (simp only [St.set_n, St.up_n, List.length_cons, List.length_nil]; omega)) only [go_sem, Nat.reduceAdd, Nat.reduceMul, Nat.reduceSub, Int.reduceAdd, Int.reduceMul, Int.reduceSub, Int.reduceNeg, Int.reduceToNat]
  refine SemS.wp fun _ => ?_
  obtain ⟨bv, cv, spv, rfl, hcv, mv7, _, _⟩ := ov.has (by decide)
  have hbv := (hw7.2 _ _ mv7).2
  have e4 : awL.l.length = 2 := rfl
  have e5 : flat fC awL.l = [.int .i64 0, .int .i64 0, .int .i64 4, .int .i64 1, .string ⟨#[]⟩, .string ⟨#[]⟩, .bool false, .int .i64 0, .int .i64 0, .int .i64 0, .string ⟨#[97]⟩, .string ⟨#[120]⟩, .bool false, .int .i64 1, .int .i64 2, .int .i64 0, .int .i64 1, .int .i64 4, .int .i64 1, .string ⟨#[]⟩, .string ⟨#[]⟩, .bool false, .int .i64 7, .int .i64 0, .int .i64 0, .string ⟨#[]⟩, .string ⟨#[]⟩, .bool false, .int .i64 3, .int .i64 4] := rfl
  rw [e5] at mv7
  have b0 : bin Tryz.prog .eql 64 (.agg #[.int .i64 0, .int .i64 0, .int .i64 0, .string ⟨#[97]⟩, .string ⟨#[120]⟩, .bool false]) (.agg #[.int .i64 0, .int .i64 0, .int .i64 0, .string ⟨#[97]⟩, .string ⟨#[120]⟩, .bool false]) = some (.bool true) := by kernel_rfl
  have b1 : bin Tryz.prog .eql 64 (.agg #[.int .i64 7, .int .i64 0, .int .i64 0, .string ⟨#[]⟩, .string ⟨#[]⟩, .bool false]) (.agg #[.int .i64 7, .int .i64 0, .int .i64 0, .string ⟨#[]⟩, .string ⟨#[]⟩, .bool false]) = some (.bool true) := by kernel_rfl
  simp -implicitDefEqProofs (disch := first | omega | (simp only [St.set_n, St.up_n, List.length_cons, List.length_nil]; omega)) only [go_sem, Nat.reduceAdd, Nat.reduceMul, Nat.reduceSub, Int.reduceAdd, Int.reduceMul, Int.reduceSub, Int.reduceNeg, Int.reduceToNat, htr, mv7, e4, b0, b1]
  exact ⟨_, To.same (fun d y h2 h3 => hσ7 d y h3) hwf, hK _ (by omega)⟩
end
end Go.Proofs.YtdbgeahmhfocaaaGreat
