/- The document's example of steps: the walk. -/
import Derived.Test.YtdbgeahmhfocaaaAwk21
namespace Go.Proofs.Ytdbgeahmhfocaaa
set_option linter.unusedSimpArgs false
set_option linter.unusedVariables false
set_option maxRecDepth 100000
open Go Go.RowKit
section
variable {B : World} {σ : St} {K : Value → St → Prop}
structure AwF (bg bn bi : Nat) (A : Option Addr) (j c : Nat) (e : Fr) : Prop where
  v1 : e.v 1 = .pointer (some ⟨bg, 0, none⟩)
  v2 : e.v 2 = .pointer (some ⟨bn, 0, none⟩)
  v3 : e.v 3 = .slice A j c
  v4 : e.v 4 = .pointer (some ⟨bi, 0, none⟩)
  d : e.d = []
structure AwS (σ : St) (bg bn g b bi : Nat) (A : Option Addr) (j c : Nat) (s : St) : Prop where
  x : ∃ (vs : List Value) (I : HF) (s0 : St), LgI (awL (B := B) bg bn g b I) j (fun c' => c' < σ.n ∨ blk (.slice A j c) = some c') (aw0 j) vs s0 ∧ s0.wf B ∧ (∀ c, c < s0.n → s.m c = s0.m c) ∧ s0.n ≤ bi ∧ s0.n ≤ s.n ∧ Own s0 34 1 vs j (.slice A j c) ∧
    (∀ c y, σ.m c = some y → s0.m c = some y) ∧ σ.n ≤ b ∧ b < s0.n ∧ bg < s0.n ∧ bn < s0.n ∧ g < s0.n ∧ (∀ q, s0.n ≤ q → I q = none) ∧ ∀ b, blk (.slice A j c) = some b → σ.n ≤ b
  i : s.m bi = some (.raw (.cells #[.int .i64 ((j : Int) + 1)] 3 (0, 0)))
theorem aw0_succ (j : Nat) : ((aw0 j).1, updL (aw0 j).2 j awT) = aw0 (j + 1) := by
  unfold aw0 updL
  congr 1
  funext t
  by_cases e : t = j
  · subst e; simp
  · simp only [if_neg e]
    by_cases h : t < j
    · rw [if_pos h, if_pos (by omega)]
    · rw [if_neg h, if_neg (by omega)]
set_option maxHeartbeats 4000000 in
theorem awake21 (hK : ∀ k, σ.n ≤ k → K (.bool true) (σ.up k)) : Fn Try.prog B 5 #[] σ K := by
  refine Fn.ofS is5 (by simp) fun hwf => ?_
  have hB := hwf.1
  simp only [b5, Try.f5, Option.getD_some]
  refine SemS.seqw fun _ => ?_
  simp -implicitDefEqProofs (disch := first | omega | (simp only [St.set_n, St.up_n, List.length_cons, List.length_nil]; omega)) only [go_sem, Nat.reduceAdd, Nat.reduceMul, Nat.reduceSub, Int.reduceAdd, Int.reduceMul, Int.reduceSub, Int.reduceNeg, Int.reduceToNat]
  refine SemS.seqw fun _ => ?_
  simp -implicitDefEqProofs (disch := first | omega | (simp only [St.set_n, St.up_n, List.length_cons, List.length_nil]; omega)) only [go_sem, Nat.reduceAdd, Nat.reduceMul, Nat.reduceSub, Int.reduceAdd, Int.reduceMul, Int.reduceSub, Int.reduceNeg, Int.reduceToNat]
  refine callF_wf (locks fun g τ hg hgn hgr hold hne hwτ => ?_)
  have h1 : groupN 1 = 1 := rfl
  rw [h1] at hgr hne
  have hne := hne.resolve_left (by omega)
  obtain ⟨hg1, hg2⟩ := hgr.resolve_left fun h => by cases h.1
  have hbn := (hwτ.2 _ _ hg2).2
  simp -implicitDefEqProofs (disch := first | omega | (simp only [St.set_n, St.up_n, List.length_cons, List.length_nil]; omega)) only [go_sem, Nat.reduceAdd, Nat.reduceMul, Nat.reduceSub, Int.reduceAdd, Int.reduceMul, Int.reduceSub, Int.reduceNeg, Int.reduceToNat]
  refine SemS.seqw fun _ => ?_
  simp -implicitDefEqProofs (disch := first | omega | (simp only [St.set_n, St.up_n, List.length_cons, List.length_nil]; omega)) only [go_sem, Nat.reduceAdd, Nat.reduceMul, Nat.reduceSub, Int.reduceAdd, Int.reduceMul, Int.reduceSub, Int.reduceNeg, Int.reduceToNat]
  refine SemS.seqw fun _ => ?_
  simp -implicitDefEqProofs (disch := first | omega | (simp only [St.set_n, St.up_n, List.length_cons, List.length_nil]; omega)) only [go_sem, Nat.reduceAdd, Nat.reduceMul, Nat.reduceSub, Int.reduceAdd, Int.reduceMul, Int.reduceSub, Int.reduceNeg, Int.reduceToNat]
  have hd : AwD τ.n (τ.n + 1) g σ.n := ⟨by omega, by omega, by omega, by omega, by omega, by omega⟩
  refine SemS.seq (fun e s => ∃ (bi : Nat) (A : Option Addr) (c : Nat), AwF τ.n (τ.n + 1) bi A 2 c e ∧ AwS (B := B) σ τ.n (τ.n + 1) g σ.n bi A 2 c s) ?_ ?_
  · refine SemS.seqw fun _ => ?_
    simp -implicitDefEqProofs (disch := first | omega | (simp only [St.set_n, St.up_n, List.length_cons, List.length_nil]; omega)) only [go_sem, Nat.reduceAdd, Nat.reduceMul, Nat.reduceSub, Int.reduceAdd, Int.reduceMul, Int.reduceSub, Int.reduceNeg, Int.reduceToNat]
    refine SemS.block (SemS.loop (fun m e s => ∃ (j bi : Nat) (A : Option Addr) (c : Nat), m = 2 - j ∧ j ≤ 2 ∧ AwF τ.n (τ.n + 1) bi A j c e ∧ AwS (B := B) σ τ.n (τ.n + 1) g σ.n bi A j c s) 2 ?_ ?_)
    · refine ⟨0, τ.n + 1 + 1, none, 0, by omega, by omega, ⟨by simp -implicitDefEqProofs (disch := first | omega | (simp only [St.set_n, St.up_n, List.length_cons, List.length_nil]; omega)) only [go_sem, Nat.reduceAdd, Nat.reduceMul, Nat.reduceSub, Int.reduceAdd, Int.reduceMul, Int.reduceSub, Int.reduceNeg, Int.reduceToNat], by simp -implicitDefEqProofs (disch := first | omega | (simp only [St.set_n, St.up_n, List.length_cons, List.length_nil]; omega)) only [go_sem, Nat.reduceAdd, Nat.reduceMul, Nat.reduceSub, Int.reduceAdd, Int.reduceMul, Int.reduceSub, Int.reduceNeg, Int.reduceToNat], by first | (simp -implicitDefEqProofs (disch := first | omega | (simp only [St.set_n, St.up_n, List.length_cons, List.length_nil]; omega)) only [go_sem, Nat.reduceAdd, Nat.reduceMul, Nat.reduceSub, Int.reduceAdd, Int.reduceMul, Int.reduceSub, Int.reduceNeg, Int.reduceToNat]; done) | (simp -implicitDefEqProofs (disch := first | omega | (simp only [St.set_n, St.up_n, List.length_cons, List.length_nil]; omega)) only [go_sem, Nat.reduceAdd, Nat.reduceMul, Nat.reduceSub, Int.reduceAdd, Int.reduceMul, Int.reduceSub, Int.reduceNeg, Int.reduceToNat]; rfl), by simp -implicitDefEqProofs (disch := first | omega | (simp only [St.set_n, St.up_n, List.length_cons, List.length_nil]; omega)) only [go_sem, Nat.reduceAdd, Nat.reduceMul, Nat.reduceSub, Int.reduceAdd, Int.reduceMul, Int.reduceSub, Int.reduceNeg, Int.reduceToNat], by simp -implicitDefEqProofs (disch := first | omega | (simp only [St.set_n, St.up_n, List.length_cons, List.length_nil]; omega)) only [go_sem, Nat.reduceAdd, Nat.reduceMul, Nat.reduceSub, Int.reduceAdd, Int.reduceMul, Int.reduceSub, Int.reduceNeg, Int.reduceToNat]⟩, ⟨⟨[], noH, ((τ.set τ.n (.raw (.cells #[.pointer (some ⟨g, 0, none⟩)] 25 (0, 0)))).set (τ.n + 1) (.raw (.cells #[.int .i64 0] 3 (0, 0)))).up (τ.n + 1 + 1), ?_, ?_, fun c hc => ?_, by simp only [St.up_n]; omega, by simp only [St.up_n]; omega, Own.nil, fun c y hx => ?_, Nat.le_refl _, by simp only [St.up_n]; omega, by simp only [St.up_n]; omega, by simp only [St.up_n]; omega, by simp only [St.up_n]; omega, fun _ _ => rfl, fun b hb => (by cases hb)⟩, by first | (simp -implicitDefEqProofs (disch := first | omega | (simp only [St.set_n, St.up_n, List.length_cons, List.length_nil]; omega)) only [go_sem, Nat.reduceAdd, Nat.reduceMul, Nat.reduceSub, Int.reduceAdd, Int.reduceMul, Int.reduceSub, Int.reduceNeg, Int.reduceToNat]; done) | (simp -implicitDefEqProofs (disch := first | omega | (simp only [St.set_n, St.up_n, List.length_cons, List.length_nil]; omega)) only [go_sem, Nat.reduceAdd, Nat.reduceMul, Nat.reduceSub, Int.reduceAdd, Int.reduceMul, Int.reduceSub, Int.reduceNeg, Int.reduceToNat]; rfl)⟩⟩
      · refine lgI_empty (fun c hc => ?_) fun c y hy => ?_
        · rcases hc with hc | hc
          · simp only [St.up_n]; omega
          · cases hc
        · simp only [awH] at hy
          split at hy
          · rename_i e; subst e; cases hy
            exact ⟨by simp -implicitDefEqProofs (disch := first | omega | (simp only [St.set_n, St.up_n, List.length_cons, List.length_nil]; omega)) only [go_sem, Nat.reduceAdd, Nat.reduceMul, Nat.reduceSub, Int.reduceAdd, Int.reduceMul, Int.reduceSub, Int.reduceNeg, Int.reduceToNat], fun hc => hc.elim (fun h => by omega) fun h => by cases h⟩
          · split at hy
            · rename_i e; subst e; cases hy
              exact ⟨by simp -implicitDefEqProofs (disch := first | omega | (simp only [St.set_n, St.up_n, List.length_cons, List.length_nil]; omega)) only [go_sem, Nat.reduceAdd, Nat.reduceMul, Nat.reduceSub, Int.reduceAdd, Int.reduceMul, Int.reduceSub, Int.reduceNeg, Int.reduceToNat, hg2]; rfl, fun hc => hc.elim (fun h => by omega) fun h => by cases h⟩
            · split at hy
              · rename_i e; subst e; cases hy
                exact ⟨by simp -implicitDefEqProofs (disch := first | omega | (simp only [St.set_n, St.up_n, List.length_cons, List.length_nil]; omega)) only [go_sem, Nat.reduceAdd, Nat.reduceMul, Nat.reduceSub, Int.reduceAdd, Int.reduceMul, Int.reduceSub, Int.reduceNeg, Int.reduceToNat], fun hc => hc.elim (fun h => by omega) fun h => by cases h⟩
              · split at hy
                · rename_i e; subst e; cases hy
                  exact ⟨by simp -implicitDefEqProofs (disch := first | omega | (simp only [St.set_n, St.up_n, List.length_cons, List.length_nil]; omega)) only [go_sem, Nat.reduceAdd, Nat.reduceMul, Nat.reduceSub, Int.reduceAdd, Int.reduceMul, Int.reduceSub, Int.reduceNeg, Int.reduceToNat, hg1]; rfl, fun hc => hc.elim (fun h => by omega) fun h => by cases h⟩
                · cases hy
      · have := set_wf1 (y := .raw (.cells #[.int .i64 0] 3 (0, 0))) (set_wf1 (y := .raw (.cells #[.pointer (some ⟨g, 0, none⟩)] 25 (0, 0))) hwτ)
        simp only [St.up_n] at this
        exact this
      · simp only [St.up_n] at hc
        simp -implicitDefEqProofs (disch := first | omega | (simp only [St.set_n, St.up_n, List.length_cons, List.length_nil]; omega)) only [go_sem, Nat.reduceAdd, Nat.reduceMul, Nat.reduceSub, Int.reduceAdd, Int.reduceMul, Int.reduceSub, Int.reduceNeg, Int.reduceToNat]
      · have := hold c y (hwf.2 _ _ hx).2 hx
        have := (hwτ.2 _ _ this).2
        simp -implicitDefEqProofs (disch := first | omega | (simp only [St.set_n, St.up_n, List.length_cons, List.length_nil]; omega)) only [go_sem, Nat.reduceAdd, Nat.reduceMul, Nat.reduceSub, Int.reduceAdd, Int.reduceMul, Int.reduceSub, Int.reduceNeg, Int.reduceToNat]
        assumption
    rintro m e s hws ⟨j, bi, A, c, hm, hj, ⟨q1, q2, q3, q4, hdd⟩, ⟨⟨vs, I, s0, hI, hw0, hs0, hbi, hn0, hO, hσ, hb1, hb2, hb3, hb4, hb5, hIn, hAb⟩, hbx⟩⟩
    refine SemS.wp fun _ => ?_
    by_cases hlt : ((j : Int) + 1) ≤ 2
    · have hbis := (hws.2 _ _ hbx).2
      have hbg : s.m τ.n = _ := (hs0 _ hb3).trans (hI.at (aw_g hd))
      have hq : ∀ u, awH τ.n (τ.n + 1) g σ.n I u bi = none := fun u => by
        unfold awH
        rw [if_neg (by omega), if_neg (by omega), if_neg (by omega), if_neg (by omega)]
        exact hIn bi hbi
      have hH : ∀ u c, awH τ.n (τ.n + 1) g σ.n (putH I bi (.raw (.cells #[.int .i64 ((j : Int) + 1)] 3 (0, 0)))) u c = if c = bi then some (.raw (.cells #[.int .i64 ((j : Int) + 1)] 3 (0, 0))) else awH τ.n (τ.n + 1) g σ.n I u c := fun u c => by
        by_cases e : c = bi
        · subst e
          rw [if_pos rfl]
          unfold awH
          rw [if_neg (by omega), if_neg (by omega), if_neg (by omega), if_neg (by omega), putH_eq]
        · rw [if_neg e]
          unfold awH
          rw [putH_ne e]
      have hIx := LgI.ext (H' := awH τ.n (τ.n + 1) g σ.n (putH I bi (.raw (.cells #[.int .i64 ((j : Int) + 1)] 3 (0, 0))))) hq hH hI hw0 hs0 hn0 hbi hbx
      simp -implicitDefEqProofs (disch := first | omega | (simp only [St.set_n, St.up_n, List.length_cons, List.length_nil]; omega)) only [go_sem, Nat.reduceAdd, Nat.reduceMul, Nat.reduceSub, Int.reduceAdd, Int.reduceMul, Int.reduceSub, Int.reduceNeg, Int.reduceToNat, q4, hbx, hlt, q1, q2, q3, hbg, hbis]
      have hk : ∀ c, c < s.n → ((s.set s.n (.raw (.cells #[.int .i64 0] 3 (0, 0)))).up (s.n + 1)).m c = s.m c := fun c hc => by simp -implicitDefEqProofs (disch := first | omega | (simp only [St.set_n, St.up_n, List.length_cons, List.length_nil]; omega)) only [go_sem, Nat.reduceAdd, Nat.reduceMul, Nat.reduceSub, Int.reduceAdd, Int.reduceMul, Int.reduceSub, Int.reduceNeg, Int.reduceToNat]
      have hn1 : s.n ≤ ((s.set s.n (.raw (.cells #[.int .i64 0] 3 (0, 0)))).up (s.n + 1)).n := by simp only [St.up_n]; omega
      have hw1 := set_wf1 (y := .raw (.cells #[.int .i64 0] 3 (0, 0))) hws
      obtain ⟨G', hG', hE, hfin⟩ := hIx.fork hws hk hn1 hw1
      have hbH : ∀ u, awH τ.n (τ.n + 1) g σ.n (putH I bi (.raw (.cells #[.int .i64 ((j : Int) + 1)] 3 (0, 0)))) u bi = some (.raw (.cells #[.int .i64 ((j : Int) + 1)] 3 (0, 0))) := fun u => by rw [hH, if_pos rfl]
      refine callF_of (locks_of (L := awL (B := B) τ.n (τ.n + 1) g σ.n (putH I bi (.raw (.cells #[.int .i64 ((j : Int) + 1)] 3 (0, 0))))) (t := j) (n := 2) (al := .lk) (T := [.ef 0, .fr 0]) (ok := tryO (awW τ.n (τ.n + 1) g σ.n _ hd.d1) ((j : Int) + 1)) (φ := tryW (awW τ.n (τ.n + 1) g σ.n _ hd.d1) ((j : Int) + 1)) (lv := lkPtr σ.n 1) ⟨_, rfl⟩ (lkPtr_pt _ _) [0] _ G' _ _ _ _
        (fun i _ => at_ok (awW τ.n (τ.n + 1) g σ.n _ hd.d1) (fun u => aw_gr hd) i) (fun i _ => try_ok (awW τ.n (τ.n + 1) g σ.n _ hd.d1) _ i) (fun i _ u => ⟨rfl, rfl, fun _ => rfl⟩) (OrdV.lit (gro (Nat.le_refl _) (by simp -implicitDefEqProofs (disch := first | omega | (simp only [St.set_n, St.up_n, List.length_cons, List.length_nil]; omega)) only [go_sem, Nat.reduceAdd, Nat.reduceMul, Nat.reduceSub, Int.reduceAdd, Int.reduceMul, Int.reduceSub, Int.reduceNeg, Int.reduceToNat]; rfl))) (aw_next hd hbH) hE fun v' s2 ha hw2 => ?_)
      have hI2 := hfin _ _ _ _ ha
      have hT := aw0_succ j
      unfold awT at hT
      rw [show List.map Act.lk [0] ++ [Act.ef 0, Act.fr 0] = [Act.lk 0, Act.ef 0, Act.fr 0] from rfl, hT] at hI2
      have hvS := hI2.stepV (v := v') (by simp)
      simp -implicitDefEqProofs (disch := first | omega | (simp only [St.set_n, St.up_n, List.length_cons, List.length_nil]; omega)) only [go_sem, Nat.reduceAdd, Nat.reduceMul, Nat.reduceSub, Int.reduceAdd, Int.reduceMul, Int.reduceSub, Int.reduceNeg, Int.reduceToNat, hvS.one.1, hvS.one.2]
      have hO2 : Own s2 34 1 vs j (.slice A j c) := hO.keepR fun b' o hb' ho => ha.keep b' _ (hG' _ (.inr hb')) (by
        have := (hw0.2 _ _ ho).2
        rw [hk b' (by omega), hs0 b' this]; exact ho)
      refine appE hw2 hO2 se28 kd28 zr34 rfl (by omega) (ys := [v']) rfl (by simp [hvS.one.2]) (by omega) fun A' C' s3 hC' o3 heq hb' hn3 hw3 => ?_
      have hI3 := Sys.inv_app (Y := lgSys (awL (B := B) τ.n (τ.n + 1) g σ.n (putH I bi (.raw (.cells #[.int .i64 ((j : Int) + 1)] 3 (0, 0))))) (j + 1)) (P := fun c => c < σ.n) (w := .slice A j c) (w' := .slice A' (j + 1) C') hI2 hw2 heq hb' hn3 fun b' hb' => by
        obtain ⟨o, ho⟩ := o3.at_ hb'
        exact (hw3.2 _ _ ho).2
      have hbi3 : s3.m bi = _ := LgI.at hI3 (hbH _)
      have hbi3n := (hw3.2 _ _ hbi3).2
      have hn2 := ha.n
      simp only [St.up_n] at hn2
      simp -implicitDefEqProofs (disch := first | omega | (simp only [St.set_n, St.up_n, List.length_cons, List.length_nil]; omega)) only [go_sem, Nat.reduceAdd, Nat.reduceMul, Nat.reduceSub, Int.reduceAdd, Int.reduceMul, Int.reduceSub, Int.reduceNeg, Int.reduceToNat, hbi3, q4, hbi3n]
      refine ⟨2 - (j + 1), by omega, _, To.refl _ _, j + 1, s3.n, A', C', rfl, by omega, ⟨by simp -implicitDefEqProofs (disch := first | omega | (simp only [St.set_n, St.up_n, List.length_cons, List.length_nil]; omega)) only [go_sem, Nat.reduceAdd, Nat.reduceMul, Nat.reduceSub, Int.reduceAdd, Int.reduceMul, Int.reduceSub, Int.reduceNeg, Int.reduceToNat, q1], by simp -implicitDefEqProofs (disch := first | omega | (simp only [St.set_n, St.up_n, List.length_cons, List.length_nil]; omega)) only [go_sem, Nat.reduceAdd, Nat.reduceMul, Nat.reduceSub, Int.reduceAdd, Int.reduceMul, Int.reduceSub, Int.reduceNeg, Int.reduceToNat, q2], by simp -implicitDefEqProofs (disch := first | omega | (simp only [St.set_n, St.up_n, List.length_cons, List.length_nil]; omega)) only [go_sem, Nat.reduceAdd, Nat.reduceMul, Nat.reduceSub, Int.reduceAdd, Int.reduceMul, Int.reduceSub, Int.reduceNeg, Int.reduceToNat], by simp -implicitDefEqProofs (disch := first | omega | (simp only [St.set_n, St.up_n, List.length_cons, List.length_nil]; omega)) only [go_sem, Nat.reduceAdd, Nat.reduceMul, Nat.reduceSub, Int.reduceAdd, Int.reduceMul, Int.reduceSub, Int.reduceNeg, Int.reduceToNat], by simp -implicitDefEqProofs (disch := first | omega | (simp only [St.set_n, St.up_n, List.length_cons, List.length_nil]; omega)) only [go_sem, Nat.reduceAdd, Nat.reduceMul, Nat.reduceSub, Int.reduceAdd, Int.reduceMul, Int.reduceSub, Int.reduceNeg, Int.reduceToNat, hdd]⟩, ⟨⟨_, _, s3, hI3, hw3, fun c hc => ?_, Nat.le_refl _, by simp only [St.up_n, St.set_n]; omega, o3, fun c y hx => ?_, hb1, by omega, by omega, by omega, by omega, fun q hqn => ?_, fun b'' hb'' => ?_⟩, ?_⟩⟩
      · simp -implicitDefEqProofs (disch := first | omega | (simp only [St.set_n, St.up_n, List.length_cons, List.length_nil]; omega)) only [go_sem, Nat.reduceAdd, Nat.reduceMul, Nat.reduceSub, Int.reduceAdd, Int.reduceMul, Int.reduceSub, Int.reduceNeg, Int.reduceToNat]
      · have h5 := (hwf.2 _ _ hx).2
        rw [heq c (by omega) fun e => by have := hAb c e; omega]
        refine ha.keep c y (hG' c (.inl h5)) ?_
        rw [hk c (by omega), hs0 c (by omega)]
        exact hσ c y hx
      · rw [putH_ne (by omega)]
        exact hIn q (by omega)
      · rcases hb' b'' hb'' with h | h
        · omega
        · exact hAb b'' h
      · simp -implicitDefEqProofs (disch := first | omega | (simp only [St.set_n, St.up_n, List.length_cons, List.length_nil]; omega)) only [go_sem, Nat.reduceAdd, Nat.reduceMul, Nat.reduceSub, Int.reduceAdd, Int.reduceMul, Int.reduceSub, Int.reduceNeg, Int.reduceToNat]
        simp
    · have : j = 2 := by omega
      subst this
      simp -implicitDefEqProofs (disch := first | omega | (simp only [St.set_n, St.up_n, List.length_cons, List.length_nil]; omega)) only [go_sem, Nat.reduceAdd, Nat.reduceMul, Nat.reduceSub, Int.reduceAdd, Int.reduceMul, Int.reduceSub, Int.reduceNeg, Int.reduceToNat, q4, hbx, hlt]
      exact ⟨_, To.refl _ _, bi, A, c, ⟨by simp -implicitDefEqProofs (disch := first | omega | (simp only [St.set_n, St.up_n, List.length_cons, List.length_nil]; omega)) only [go_sem, Nat.reduceAdd, Nat.reduceMul, Nat.reduceSub, Int.reduceAdd, Int.reduceMul, Int.reduceSub, Int.reduceNeg, Int.reduceToNat, q1], by simp -implicitDefEqProofs (disch := first | omega | (simp only [St.set_n, St.up_n, List.length_cons, List.length_nil]; omega)) only [go_sem, Nat.reduceAdd, Nat.reduceMul, Nat.reduceSub, Int.reduceAdd, Int.reduceMul, Int.reduceSub, Int.reduceNeg, Int.reduceToNat, q2], by simp -implicitDefEqProofs (disch := first | omega | (simp only [St.set_n, St.up_n, List.length_cons, List.length_nil]; omega)) only [go_sem, Nat.reduceAdd, Nat.reduceMul, Nat.reduceSub, Int.reduceAdd, Int.reduceMul, Int.reduceSub, Int.reduceNeg, Int.reduceToNat, q3], by simp -implicitDefEqProofs (disch := first | omega | (simp only [St.set_n, St.up_n, List.length_cons, List.length_nil]; omega)) only [go_sem, Nat.reduceAdd, Nat.reduceMul, Nat.reduceSub, Int.reduceAdd, Int.reduceMul, Int.reduceSub, Int.reduceNeg, Int.reduceToNat, q4], by simp -implicitDefEqProofs (disch := first | omega | (simp only [St.set_n, St.up_n, List.length_cons, List.length_nil]; omega)) only [go_sem, Nat.reduceAdd, Nat.reduceMul, Nat.reduceSub, Int.reduceAdd, Int.reduceMul, Int.reduceSub, Int.reduceNeg, Int.reduceToNat, hdd]⟩, ⟨⟨vs, I, s0, hI, hw0, hs0, hbi, hn0, hO, hσ, hb1, hb2, hb3, hb4, hb5, hIn, hAb⟩, hbx⟩⟩
  · rintro e s hws ⟨bi, A, c, ⟨q1, q2, q3, q4, hdd⟩, ⟨⟨vs, I, s0, hI, hw0, hs0, hbi, hn0, hO, hσ, hb1, hb2, hb3, hb4, hb5, hIn, hAb⟩, hbx⟩⟩
    refine SemS.seqw fun _ => ?_
    simp -implicitDefEqProofs (disch := first | omega | (simp only [St.set_n, St.up_n, List.length_cons, List.length_nil]; omega)) only [go_sem, Nat.reduceAdd, Nat.reduceMul, Nat.reduceSub, Int.reduceAdd, Int.reduceMul, Int.reduceSub, Int.reduceNeg, Int.reduceToNat, q3]
    have hIs : (lgSys (awL (B := B) τ.n (τ.n + 1) g σ.n I) 2).Inv (fun c' => c' < σ.n ∨ blk (.slice A 2 c) = some c') (aw0 2) vs s := (lgSys (awL (B := B) τ.n (τ.n + 1) g σ.n I) 2).stable hI (fun c y _ hx => by rw [hs0 c (hw0.2 _ _ hx).2]; exact hx) hn0
    have hOs : Own s 34 1 vs 2 (.slice A 2 c) := hO.keepR fun b' o hb' ho => by rw [hs0 b' (hw0.2 _ _ ho).2]; exact ho
    have hvl : vs.length = 2 := hI.len
    obtain ⟨r1, r2, r3⟩ := awr (B := B) (bg := τ.n) (bn := τ.n + 1) (g := g) (b := σ.n) (I := I)
    obtain ⟨R, hR⟩ : ∃ R, Sys.loopA (Y := lgSys (awL (B := B) τ.n (τ.n + 1) g σ.n I) 2) 70000 (Sys.picksA ⟨aw0 2, [], 0⟩ []) = R := ⟨_, rfl⟩
    rw [hR] at r1 r2 r3
    refine callF_wf (m_run hIs (show (2 : Nat) ≤ 1000 by omega) (by simp) ⟨⟨A, c, by rw [hvl]⟩, by rw [hvl]; exact hOs.fc⟩ (fun s' hs' => by rw [hvl]; exact (hOs.keepR fun b' o hb' ho => by rw [hs' b' (hws.2 _ _ ho).2]; exact ho).fc) slR_nil hR fun mv vs' s4 om hI4 hn4 hk4 hws4 => ?_)
    rw [r1] at om
    rw [r3]
    obtain ⟨Am, cm, rfl, _⟩ := om.is
    have hn' : s4.m (τ.n + 1) = _ := LgI.at (H := awH τ.n (τ.n + 1) g σ.n I) hI4 aw_n
    rw [r2] at hn'
    have hnn := (hws4.2 _ _ hn').2
    simp -implicitDefEqProofs (disch := first | omega | (simp only [St.set_n, St.up_n, List.length_cons, List.length_nil]; omega)) only [go_sem, Nat.reduceAdd, Nat.reduceMul, Nat.reduceSub, Int.reduceAdd, Int.reduceMul, Int.reduceSub, Int.reduceNeg, Int.reduceToNat]
    refine SemS.wp fun _ => ?_
    have e6 : ((6 : Nat) : Int) = 6 := rfl
    simp -implicitDefEqProofs (disch := first | omega | (simp only [St.set_n, St.up_n, List.length_cons, List.length_nil]; omega)) only [go_sem, Nat.reduceAdd, Nat.reduceMul, Nat.reduceSub, Int.reduceAdd, Int.reduceMul, Int.reduceSub, Int.reduceNeg, Int.reduceToNat, q2, hn', hnn, hdd, e6]
    refine ⟨_, To.same (fun d y h2 h3 => ?_) hwf, hK _ (by simp only [St.up_n, St.set_n]; omega)⟩
    have h5 := hk4 d y (.inl h2) (by rw [hs0 d (by omega)]; exact hσ d y h3)
    have := (hws4.2 _ _ h5).2
    simp -implicitDefEqProofs (disch := first | omega | (simp only [St.set_n, St.up_n, List.length_cons, List.length_nil]; omega)) only [go_sem, Nat.reduceAdd, Nat.reduceMul, Nat.reduceSub, Int.reduceAdd, Int.reduceMul, Int.reduceSub, Int.reduceNeg, Int.reduceToNat, h5]
end
end Go.Proofs.Ytdbgeahmhfocaaa
