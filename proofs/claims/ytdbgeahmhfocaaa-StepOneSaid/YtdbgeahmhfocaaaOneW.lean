/- 'StepOne': the walk. -/
import Derived.Test.YtdbgeahmhfocaaaOneD
namespace Go.Proofs.Ytdbgeahmhfocaaa
set_option linter.unusedSimpArgs false
set_option linter.unusedVariables false
set_option maxRecDepth 100000
open Go Go.RowKit
section
variable {B : World} {σ : St} {K : Value → St → Prop}
def onI (bc bold g : Nat) (cv : Value) (old : Int) (b : Nat) (vr : Value) (sr : St) : HF := fun c =>
  if c = bc then some (.raw (.cells #[cv] 30 (0, 0))) else if c = bold then some (.raw (.cells #[.int .i64 old] 3 (0, 0))) else if c = g then some (.raw (.cells #[.slice (some ⟨b, 0, none⟩) (8 : Nat) (8 : Nat)] 60 (0, 0)))
  else if blk vr = some c then sr.m c else none
/-- The second run's end. -/
structure OnT (σ : St) (H : O1 → HF) (n : Nat) (e : Fr) (s : St) : Prop where
  x : ∃ (tb : Nat) (A : Option Addr) (c : Nat) (ca : Int) (u : O1), e.v 14 = .pointer (some ⟨tb, 0, none⟩) ∧ s.m tb = some (.raw (.cells #[.slice A (n + 3) c, .int .i64 ca, .int .i64 0] 44 (0, 0))) ∧ OW σ H u s ∧ ∀ i, i < 8 → (u.l i).1 = 0
structure OnF (vr : Value) (g bc : Nat) (e : Fr) : Prop where
  v7 : e.v 7 = vr
  v8 : e.v 8 = .pointer (some ⟨g, 0, none⟩)
  v9 : e.v 9 = .pointer (some ⟨bc, 0, none⟩)
  d : e.d = []
set_option maxHeartbeats 4000000 in
theorem one21 {order : List Int} {v : Value} {value old : Int} (hp : SlR B 1 RInt order v) (hK : ∀ k, σ.n ≤ k → K (.bool true) (σ.up k)) : Fn Try.prog B 4 #[v, .int .i64 value, .int .i64 old] σ K := by
  have hp' := hp
  obtain ⟨a, cap, rfl, hlc, hcm, hnil, hat⟩ := hp
  refine Fn.ofS is4 (by simp) fun hwf => ?_
  have hB := hwf.1
  simp only [b4, Try.f4, Option.getD_some]
  refine SemS.seqw fun _ => ?_
  simp -implicitDefEqProofs (disch := first | omega | (simp only [St.set_n, St.up_n, List.length_cons, List.length_nil]; omega)) only [go_sem, Nat.reduceAdd, Nat.reduceMul, Nat.reduceSub, Int.reduceAdd, Int.reduceMul, Int.reduceSub, Int.reduceNeg, Int.reduceToNat]
  refine SemS.seqw fun _ => ?_
  simp -implicitDefEqProofs (disch := first | omega | (simp only [St.set_n, St.up_n, List.length_cons, List.length_nil]; omega)) only [go_sem, Nat.reduceAdd, Nat.reduceMul, Nat.reduceSub, Int.reduceAdd, Int.reduceMul, Int.reduceSub, Int.reduceNeg, Int.reduceToNat]
  refine callF_of (awake21 fun k1 hk1 => ?_)
  simp only [St.up_n] at hk1
  simp -implicitDefEqProofs (disch := first | omega | (simp only [St.set_n, St.up_n, List.length_cons, List.length_nil]; omega)) only [go_sem, Nat.reduceAdd, Nat.reduceMul, Nat.reduceSub, Int.reduceAdd, Int.reduceMul, Int.reduceSub, Int.reduceNeg, Int.reduceToNat]
  by_cases h20 : (20 : Int) < order.length
  · refine SemS.wp fun _ => ?_
    simp -implicitDefEqProofs (disch := first | omega | (simp only [St.set_n, St.up_n, List.length_cons, List.length_nil]; omega)) only [go_sem, Nat.reduceAdd, Nat.reduceMul, Nat.reduceSub, Int.reduceAdd, Int.reduceMul, Int.reduceSub, Int.reduceNeg, Int.reduceToNat, h20]
    exact ⟨_, To.same (fun d y h2 h3 => by simp -implicitDefEqProofs (disch := first | omega | (simp only [St.set_n, St.up_n, List.length_cons, List.length_nil]; omega)) only [go_sem, Nat.reduceAdd, Nat.reduceMul, Nat.reduceSub, Int.reduceAdd, Int.reduceMul, Int.reduceSub, Int.reduceNeg, Int.reduceToNat, h3]) hwf, hK _ (by simp only [St.up_n]; omega)⟩
  refine SemS.seqw fun hw1 => ?_
  simp -implicitDefEqProofs (disch := first | omega | (simp only [St.set_n, St.up_n, List.length_cons, List.length_nil]; omega)) only [go_sem, Nat.reduceAdd, Nat.reduceMul, Nat.reduceSub, Int.reduceAdd, Int.reduceMul, Int.reduceSub, Int.reduceNeg, Int.reduceToNat, h20]
  refine SemS.seqw fun _ => ?_
  simp -implicitDefEqProofs (disch := first | omega | (simp only [St.set_n, St.up_n, List.length_cons, List.length_nil]; omega)) only [go_sem, Nat.reduceAdd, Nat.reduceMul, Nat.reduceSub, Int.reduceAdd, Int.reduceMul, Int.reduceSub, Int.reduceNeg, Int.reduceToNat]
  have hob : ((σ.set σ.n (.raw (.cells #[.int .i64 old] 3 (0, 0)))).up k1).m σ.n = some (.raw (.cells #[.int .i64 old] 3 (0, 0))) := by simp -implicitDefEqProofs (disch := first | omega | (simp only [St.set_n, St.up_n, List.length_cons, List.length_nil]; omega)) only [go_sem, Nat.reduceAdd, Nat.reduceMul, Nat.reduceSub, Int.reduceAdd, Int.reduceMul, Int.reduceSub, Int.reduceNeg, Int.reduceToNat]
  have hσ1 : ∀ c y, σ.m c = some y → ((σ.set σ.n (.raw (.cells #[.int .i64 old] 3 (0, 0)))).up k1).m c = some y := fun c y hx => by
    have := (hwf.2 _ _ hx).2
    simp -implicitDefEqProofs (disch := first | omega | (simp only [St.set_n, St.up_n, List.length_cons, List.length_nil]; omega)) only [go_sem, Nat.reduceAdd, Nat.reduceMul, Nat.reduceSub, Int.reduceAdd, Int.reduceMul, Int.reduceSub, Int.reduceNeg, Int.reduceToNat, hx]
  have hn1 : σ.n + 1 ≤ ((σ.set σ.n (.raw (.cells #[.int .i64 old] 3 (0, 0)))).up k1).n := by simp only [St.up_n]; omega
  generalize (σ.set σ.n (.raw (.cells #[.int .i64 old] 3 (0, 0)))).up k1 = s1 at hw1 hob hσ1 hn1 ⊢
  refine callF_wf (rising_of hp' (by omega) fun vr s2 hO2 hold2 hn2 hb2 hw2 => ?_)
  obtain ⟨os, hos⟩ : ∃ os, os = rise order 8 := ⟨_, rfl⟩
  have hor : ∀ x ∈ os, 0 ≤ x ∧ x < 8 := fun x hx => by
    rw [hos, mem_rise] at hx
    obtain ⟨i, h1, rfl, _⟩ := hx
    omega
  have hond : os.Nodup := hos ▸ rise_nodup _ _
  have hol : os.length ≤ 8 := hos ▸ rise_len _ _
  have hheld : ∀ l : Nat → Lk, Own8 l (fun i => (i : Int) ∈ os) → heldTo (lksA 8 l) 3 8 = os := fun l hl => by
    rw [hos]
    refine heldTo_rise _ _ _ _ fun i hi => ⟨_, lksA_get hi, ?_⟩
    have h1 := hl i hi
    simp only [hos, mem_rise' order hi] at h1
    constructor
    · intro e
      cases hh : hit order i with
      | true => rfl
      | false => have := h1.2 (by rw [hh]; simp); omega
    · exact h1.1
  rw [← hos] at hO2
  simp -implicitDefEqProofs (disch := first | omega | (simp only [St.set_n, St.up_n, List.length_cons, List.length_nil]; omega)) only [go_sem, Nat.reduceAdd, Nat.reduceMul, Nat.reduceSub, Int.reduceAdd, Int.reduceMul, Int.reduceSub, Int.reduceNeg, Int.reduceToNat]
  refine SemS.seqw fun _ => ?_
  simp -implicitDefEqProofs (disch := first | omega | (simp only [St.set_n, St.up_n, List.length_cons, List.length_nil]; omega)) only [go_sem, Nat.reduceAdd, Nat.reduceMul, Nat.reduceSub, Int.reduceAdd, Int.reduceMul, Int.reduceSub, Int.reduceNeg, Int.reduceToNat]
  refine callF_wf (locks fun g τ hg hgn hgr hold3 hne hwτ => ?_)
  have h8 : groupN 8 = 8 := rfl
  rw [h8] at hgr hne
  have hne := hne.resolve_left (by omega)
  obtain ⟨hg1, hg2⟩ := hgr.resolve_left fun h => by cases h.1
  simp only [List.length_replicate] at hg1
  have hbn := (hwτ.2 _ _ hg2).2
  simp -implicitDefEqProofs (disch := first | omega | (simp only [St.set_n, St.up_n, List.length_cons, List.length_nil]; omega)) only [go_sem, Nat.reduceAdd, Nat.reduceMul, Nat.reduceSub, Int.reduceAdd, Int.reduceMul, Int.reduceSub, Int.reduceNeg, Int.reduceToNat]
  refine SemS.seqw fun _ => ?_
  simp -implicitDefEqProofs (disch := first | omega | (simp only [St.set_n, St.up_n, List.length_cons, List.length_nil]; omega)) only [go_sem, Nat.reduceAdd, Nat.reduceMul, Nat.reduceSub, Int.reduceAdd, Int.reduceMul, Int.reduceSub, Int.reduceNeg, Int.reduceToNat]
  refine callF_of (cell_new _ ?_)
  simp -implicitDefEqProofs (disch := first | omega | (simp only [St.set_n, St.up_n, List.length_cons, List.length_nil]; omega)) only [go_sem, Nat.reduceAdd, Nat.reduceMul, Nat.reduceSub, Int.reduceAdd, Int.reduceMul, Int.reduceSub, Int.reduceNeg, Int.reduceToNat]
  refine SemS.seqw fun _ => ?_
  simp -implicitDefEqProofs (disch := first | omega | (simp only [St.set_n, St.up_n, List.length_cons, List.length_nil]; omega)) only [go_sem, Nat.reduceAdd, Nat.reduceMul, Nat.reduceSub, Int.reduceAdd, Int.reduceMul, Int.reduceSub, Int.reduceNeg, Int.reduceToNat]
  have hI0 : ∀ c y, onI (τ.n + 1) σ.n g (.pointer (some ⟨τ.n, 0, none⟩)) old s2.n vr s2 c = some y → c ≠ τ.n + 1 + 1 ∧ c ≠ τ.n + 1 + 1 + 1 ∧ c ≠ τ.n ∧ c ≠ s2.n ∧ σ.n ≤ c ∧ (((((((τ.set τ.n (.raw (.cells #[.int .i64 value, .int .i64 0] 52 (0, 0)))).set (τ.n + 1) (.raw (.cells #[.pointer (some ⟨τ.n, 0, none⟩)] 30 (0, 0)))).set (τ.n + 1 + 1) (.raw (.cells #[.int .i64 0] 3 (0, 0)))).set (τ.n + 1 + 1 + 1) (.raw (.cells #[.bool false] 4 (0, 0)))).set (τ.n + 1 + 1) (.raw (.cells #[.int .i64 0] 3 (0, 0)))).set (τ.n + 1 + 1 + 1) (.raw (.cells #[.bool false] 4 (0, 0)))).up (τ.n + 1 + 1 + 1 + 1)).m c = some y := by
    intro c y hc
    unfold onI at hc
    split at hc
    · rename_i e; subst e; cases hc
      exact ⟨by omega, by omega, by omega, by omega, by omega, by simp -implicitDefEqProofs (disch := first | omega | (simp only [St.set_n, St.up_n, List.length_cons, List.length_nil]; omega)) only [go_sem, Nat.reduceAdd, Nat.reduceMul, Nat.reduceSub, Int.reduceAdd, Int.reduceMul, Int.reduceSub, Int.reduceNeg, Int.reduceToNat]⟩
    · split at hc
      · rename_i e; subst e; cases hc
        have h3 := hold3 _ _ (by omega) ((hold2 _ (by omega)).trans hob)
        exact ⟨by omega, by omega, by omega, by omega, by omega, by simp -implicitDefEqProofs (disch := first | omega | (simp only [St.set_n, St.up_n, List.length_cons, List.length_nil]; omega)) only [go_sem, Nat.reduceAdd, Nat.reduceMul, Nat.reduceSub, Int.reduceAdd, Int.reduceMul, Int.reduceSub, Int.reduceNeg, Int.reduceToNat, h3]⟩
      · split at hc
        · rename_i e; subst e; cases hc
          exact ⟨by omega, by omega, by omega, by omega, by omega, by simp -implicitDefEqProofs (disch := first | omega | (simp only [St.set_n, St.up_n, List.length_cons, List.length_nil]; omega)) only [go_sem, Nat.reduceAdd, Nat.reduceMul, Nat.reduceSub, Int.reduceAdd, Int.reduceMul, Int.reduceSub, Int.reduceNeg, Int.reduceToNat, hg1]⟩
        · split at hc
          · rename_i e
            have h1 := hb2 _ e
            have h2 := (hw2.2 _ _ hc).2
            have h3 := hold3 _ _ h2 hc
            exact ⟨by omega, by omega, by omega, by omega, by omega, by simp -implicitDefEqProofs (disch := first | omega | (simp only [St.set_n, St.up_n, List.length_cons, List.length_nil]; omega)) only [go_sem, Nat.reduceAdd, Nat.reduceMul, Nat.reduceSub, Int.reduceAdd, Int.reduceMul, Int.reduceSub, Int.reduceNeg, Int.reduceToNat, h3]⟩
          · cases hc
  have hd : OnD (τ.n + 1 + 1) (τ.n + 1 + 1 + 1) τ.n s2.n := ⟨by omega, by omega, by omega, by omega, by omega, by omega⟩
  obtain ⟨I, hI⟩ : ∃ I, I = onI (τ.n + 1) σ.n g (.pointer (some ⟨τ.n, 0, none⟩)) old s2.n vr s2 := ⟨_, rfl⟩
  rw [← hI] at hI0
  obtain ⟨u0, hu0⟩ : ∃ u0 : O1, u0 = ⟨fun _ => (0, 0, 0), (value, 0), 0, false⟩ := ⟨_, rfl⟩
  have hW : OW σ (onH (τ.n + 1 + 1) (τ.n + 1 + 1 + 1) τ.n s2.n I) u0 (((((((τ.set τ.n (.raw (.cells #[.int .i64 value, .int .i64 0] 52 (0, 0)))).set (τ.n + 1) (.raw (.cells #[.pointer (some ⟨τ.n, 0, none⟩)] 30 (0, 0)))).set (τ.n + 1 + 1) (.raw (.cells #[.int .i64 0] 3 (0, 0)))).set (τ.n + 1 + 1 + 1) (.raw (.cells #[.bool false] 4 (0, 0)))).set (τ.n + 1 + 1) (.raw (.cells #[.int .i64 0] 3 (0, 0)))).set (τ.n + 1 + 1 + 1) (.raw (.cells #[.bool false] 4 (0, 0)))).up (τ.n + 1 + 1 + 1 + 1)) := by
    refine ⟨fun c y hc => ?_, fun c y hx => ?_, by simp only [St.up_n]; omega⟩
    · subst hu0
      unfold onH at hc
      split at hc
      · rename_i e; subst e; cases hc
        exact ⟨by simp -implicitDefEqProofs (disch := first | omega | (simp only [St.set_n, St.up_n, List.length_cons, List.length_nil]; omega)) only [go_sem, Nat.reduceAdd, Nat.reduceMul, Nat.reduceSub, Int.reduceAdd, Int.reduceMul, Int.reduceSub, Int.reduceNeg, Int.reduceToNat], by omega⟩
      · split at hc
        · rename_i e; subst e; cases hc
          exact ⟨by simp -implicitDefEqProofs (disch := first | omega | (simp only [St.set_n, St.up_n, List.length_cons, List.length_nil]; omega)) only [go_sem, Nat.reduceAdd, Nat.reduceMul, Nat.reduceSub, Int.reduceAdd, Int.reduceMul, Int.reduceSub, Int.reduceNeg, Int.reduceToNat], by omega⟩
        · split at hc
          · rename_i e; subst e; cases hc
            exact ⟨by simp -implicitDefEqProofs (disch := first | omega | (simp only [St.set_n, St.up_n, List.length_cons, List.length_nil]; omega)) only [go_sem, Nat.reduceAdd, Nat.reduceMul, Nat.reduceSub, Int.reduceAdd, Int.reduceMul, Int.reduceSub, Int.reduceNeg, Int.reduceToNat], by omega⟩
          · split at hc
            · rename_i e; subst e; cases hc
              exact ⟨by simp -implicitDefEqProofs (disch := first | omega | (simp only [St.set_n, St.up_n, List.length_cons, List.length_nil]; omega)) only [go_sem, Nat.reduceAdd, Nat.reduceMul, Nat.reduceSub, Int.reduceAdd, Int.reduceMul, Int.reduceSub, Int.reduceNeg, Int.reduceToNat, hg2]; rfl, by omega⟩
            · obtain ⟨_, _, _, _, h5, h6⟩ := hI0 c y hc
              exact ⟨h6, by omega⟩
    · have h1 := (hwf.2 _ _ hx).2
      have h3 := hold3 _ _ (by omega) ((hold2 _ (by omega)).trans (hσ1 _ _ hx))
      simp -implicitDefEqProofs (disch := first | omega | (simp only [St.set_n, St.up_n, List.length_cons, List.length_nil]; omega)) only [go_sem, Nat.reduceAdd, Nat.reduceMul, Nat.reduceSub, Int.reduceAdd, Int.reduceMul, Int.reduceSub, Int.reduceNeg, Int.reduceToNat, h3]
  have hbc : ∀ u, onH (τ.n + 1 + 1) (τ.n + 1 + 1 + 1) τ.n s2.n I u (τ.n + 1) = some (.raw (.cells #[.pointer (some ⟨τ.n, 0, none⟩)] 30 (0, 0))) := fun u => by
    rw [on_I (by omega) (by omega) (by omega) (by omega), hI]; unfold onI; rw [if_pos rfl]
  have hbo : ∀ u, onH (τ.n + 1 + 1) (τ.n + 1 + 1 + 1) τ.n s2.n I u σ.n = some (.raw (.cells #[.int .i64 old] 3 (0, 0))) := fun u => by
    rw [on_I (by omega) (by omega) (by omega) (by omega), hI]; unfold onI; rw [if_neg (by omega), if_pos rfl]
  have hgH : ∀ u, onH (τ.n + 1 + 1) (τ.n + 1 + 1 + 1) τ.n s2.n I u g = some (.raw (.cells #[.slice (some ⟨s2.n, 0, none⟩) (8 : Nat) (8 : Nat)] 60 (0, 0))) := fun u => by
    rw [on_I (by omega) (by omega) (by omega) (by omega), hI]; unfold onI; rw [if_neg (by omega), if_neg (by omega), if_pos rfl]
  have hvH : ∀ b y, blk vr = some b → s2.m b = some y → ∀ u, onH (τ.n + 1 + 1) (τ.n + 1 + 1 + 1) τ.n s2.n I u b = some y := fun b y hb hy u => by
    have h1 := hb2 _ hb
    have h2 := (hw2.2 _ _ hy).2
    rw [on_I (by omega) (by omega) (by omega) (by omega), hI]; unfold onI; rw [if_neg (by omega), if_neg (by omega), if_neg (by omega), if_pos hb]; exact hy
  have hog : σ.n ≠ τ.n + 1 + 1 := by omega
  have hcg : τ.n + 1 ≠ τ.n + 1 + 1 := by omega
  clear hI0
  generalize ((((((τ.set τ.n (.raw (.cells #[.int .i64 value, .int .i64 0] 52 (0, 0)))).set (τ.n + 1) (.raw (.cells #[.pointer (some ⟨τ.n, 0, none⟩)] 30 (0, 0)))).set (τ.n + 1 + 1) (.raw (.cells #[.int .i64 0] 3 (0, 0)))).set (τ.n + 1 + 1 + 1) (.raw (.cells #[.bool false] 4 (0, 0)))).set (τ.n + 1 + 1) (.raw (.cells #[.int .i64 0] 3 (0, 0)))).set (τ.n + 1 + 1 + 1) (.raw (.cells #[.bool false] 4 (0, 0)))).up (τ.n + 1 + 1 + 1 + 1) = s5 at hW ⊢
  generalize hbc' : τ.n + 1 = bc at *
  generalize hbg' : bc + 1 = bgot at *
  generalize hbs' : bgot + 1 = bset at *
  generalize hcb' : τ.n = cb at *
  generalize hbo' : σ.n = bold at hbo hog
  generalize hb' : s2.n = b at *
  refine SemS.seqw fun hw5 => ?_
  simp -implicitDefEqProofs (disch := first | omega | (simp only [St.set_n, St.up_n, List.length_cons, List.length_nil]; omega)) only [go_sem, Nat.reduceAdd, Nat.reduceMul, Nat.reduceSub, Int.reduceAdd, Int.reduceMul, Int.reduceSub, Int.reduceNeg, Int.reduceToNat]
  obtain ⟨G1, hG1, hE1, hfin1⟩ := (hW.lgi (B := B) (A := Act) (ex := exO)).fork hw5 (fun c _ => rfl) (Nat.le_refl _) hw5
  have hOV : ∀ h, OrdV (oL (B := B) (onH bgot bset cb b I)) h vr os := fun h => OrdV.own hO2 fun b' y hb' hy G u s' he => (he.at (hvH b' y hb' hy u)).1
  refine callF_of (locks_of (L := oL (B := B) (onH bgot bset cb b I)) (t := 0) (n := 2) (al := .lk) (T := [.ld, .cs old]) (ok := tryO (onL hd) 3) (φ := tryW (onL hd) 3) (lv := lkPtr b 8) ⟨_, rfl⟩ (lkPtr_pt _ _) os _ G1 _ _ _ _
    (fun i _ => at_ok (onL hd) (fun u => hgH u) i) (fun i _ => try_ok (onL hd) 3 i) (fun i _ u => ⟨rfl, rfl, fun _ => rfl⟩) (hOV _) (on_next hd hbc hbo hog hcg) hE1 fun v' s6 ha hw6 => ?_)
  have hI6 := hfin1 _ _ _ _ ha
  have ho6 : ∀ c y, σ.m c = some y → s6.m c = some y := fun c y hx => ha.keep c y (hG1 c (hwf.2 _ _ hx).2) (hW.old c y hx)
  have hn6 := ha.n
  have hW6 := hI6.ow ho6 (Nat.le_trans hW.n hn6)
  obtain ⟨f, c1, c2, rfl⟩ : ∃ f c1 c2, v' = .func (.func f) c1 c2 := by
    rcases (lgSys (oL (B := B) (onH bgot bset cb b I)) 1).val hI6 (t := 0) rfl with ⟨h, _⟩ | ⟨_, h⟩
    · have h : (!(List.map Act.lk os ++ [Act.ld, Act.cs old]).isEmpty) = false := h
      simp at h
    · exact h
  clear ha hE1 hfin1
  simp -implicitDefEqProofs (disch := first | omega | (simp only [St.set_n, St.up_n, List.length_cons, List.length_nil]; omega)) only [go_sem, Nat.reduceAdd, Nat.reduceMul, Nat.reduceSub, Int.reduceAdd, Int.reduceMul, Int.reduceSub, Int.reduceNeg, Int.reduceToNat]
  refine SemS.seqw fun _ => ?_
  have hbc6 := (hW6.w _ _ (hbc u0)).1
  have hcb6 := (hW6.w _ _ (on_cell hd (u := u0))).1
  have hg6 := (hW6.w _ _ (hgH u0)).1
  have hl6 := (hW6.w _ _ (on_lk hd (u := u0))).1
  have hu0c : u0.c = (value, 0) := by rw [hu0]
  have hu0l : ∀ i, (u0.l i).1 = 0 := fun i => by rw [hu0]
  rw [hu0c] at hcb6
  simp -implicitDefEqProofs (disch := first | omega | (simp only [St.set_n, St.up_n, List.length_cons, List.length_nil]; omega)) only [go_sem, Nat.reduceAdd, Nat.reduceMul, Nat.reduceSub, Int.reduceAdd, Int.reduceMul, Int.reduceSub, Int.reduceNeg, Int.reduceToNat, hbc6]
  refine callF_of (countI (c := #[.int .i64 value, .int .i64 0]) (n := 0) hcb6 rfl ?_)
  simp -implicitDefEqProofs (disch := first | omega | (simp only [St.set_n, St.up_n, List.length_cons, List.length_nil]; omega)) only [go_sem, Nat.reduceAdd, Nat.reduceMul, Nat.reduceSub, Int.reduceAdd, Int.reduceMul, Int.reduceSub, Int.reduceNeg, Int.reduceToNat]
  refine callF_of (on_held (u := 3) (r := []) hg6 hl6 (by omega) (heldTo_none _ _ _ fun i hi => ⟨_, lksA_get hi, by rw [hu0l]; omega⟩) fun vh s7 hO7 hb7 hold7 hn7 hw7 => ?_)
  obtain ⟨Ah, ch, rfl, _⟩ := hO7.is
  have e0 : (([] : List Int).length : Int) = 0 := rfl
  simp -implicitDefEqProofs (disch := first | omega | (simp only [St.set_n, St.up_n, List.length_cons, List.length_nil]; omega)) only [go_sem, Nat.reduceAdd, Nat.reduceMul, Nat.reduceSub, Int.reduceAdd, Int.reduceMul, Int.reduceSub, Int.reduceNeg, Int.reduceToNat, e0]
  have hk67 : ∀ c y, s6.m c = some y → s7.m c = some y := fun c y hx => hold7 c y (hw6.2 _ _ hx).2 hx
  have hI7 := LgI.keep hI6 hk67 hn7
  have hW7 := hW6.keep hk67 hn7
  refine SemS.seqw fun hw7' => ?_
  simp -implicitDefEqProofs (disch := first | omega | (simp only [St.set_n, St.up_n, List.length_cons, List.length_nil]; omega)) only [go_sem, Nat.reduceAdd, Nat.reduceMul, Nat.reduceSub, Int.reduceAdd, Int.reduceMul, Int.reduceSub, Int.reduceNeg, Int.reduceToNat]
  obtain ⟨R, hR⟩ : ∃ R, Sys.loopA (Y := lgSys (oL (B := B) (onH bgot bset cb b I)) 1) 70000 (Sys.picksA ⟨o1S os old u0, [], 0⟩ []) = R := ⟨_, rfl⟩
  obtain ⟨r1, r2, r3, r4, r5, r6⟩ := one_run (B := B) (H := onH bgot bset cb b I) hor hond hol (fun i _ => hu0l i) hu0c hR
  have hs8 : ∀ c y, s7.m c = some y → ((s7.set s7.n (.raw (.cells #[.func (.func f) c1 c2] 34 (0, 0)))).up (s7.n + 1)).m c = some y := fun c y hx => by
    have := (hw7.2 _ _ hx).2
    simp -implicitDefEqProofs (disch := first | omega | (simp only [St.set_n, St.up_n, List.length_cons, List.length_nil]; omega)) only [go_sem, Nat.reduceAdd, Nat.reduceMul, Nat.reduceSub, Int.reduceAdd, Int.reduceMul, Int.reduceSub, Int.reduceNeg, Int.reduceToNat, hx]
  have hm8 : ((s7.set s7.n (.raw (.cells #[.func (.func f) c1 c2] 34 (0, 0)))).up (s7.n + 1)).m s7.n = some (.raw (.cells [.func (.func f) c1 c2].toArray 34 (0, 0))) := by simp -implicitDefEqProofs (disch := first | omega | (simp only [St.set_n, St.up_n, List.length_cons, List.length_nil]; omega)) only [go_sem, Nat.reduceAdd, Nat.reduceMul, Nat.reduceSub, Int.reduceAdd, Int.reduceMul, Int.reduceSub, Int.reduceNeg, Int.reduceToNat]
  have hn8 : s7.n < ((s7.set s7.n (.raw (.cells #[.func (.func f) c1 c2] 34 (0, 0)))).up (s7.n + 1)).n := by simp only [St.up_n]; omega
  generalize (s7.set s7.n (.raw (.cells #[.func (.func f) c1 c2] 34 (0, 0)))).up (s7.n + 1) = s8 at hs8 hm8 hn8 ⊢
  have hI8 := LgI.keep hI7 hs8 (by omega)
  refine callF_wf (m_run (Y := lgSys (oL (B := B) (onH bgot bset cb b I)) 1) (x0 := o1S os old u0) hI8 (show (1 : Nat) ≤ 1000 by omega) (by simp) ⟨⟨_, _, rfl⟩, fc_block hm8 rfl⟩ (fun s hs => fc_block (by rw [hs _ hn8]; exact hm8) rfl) slR_nil hR fun mv vs' s9 om hI9 hn9 hk9 hw9 => ?_)
  rw [r1]
  obtain ⟨Am, cm, rfl, _⟩ := om.is
  rw [r2]
  have hW9 := LgI.ow hI9 (fun c y hx => hk9 c y (hwf.2 _ _ hx).2 (hs8 _ _ (hW7.old c y hx))) (by have := hW7.n; omega)
  obtain ⟨u1, hu1⟩ : ∃ u1, R.1.x.1 = u1 := ⟨_, rfl⟩
  rw [hu1] at r3 r4 r5 r6 hW9
  clear hI9 hI8 hI7 hI6 hk9 hs8 hm8 hW7 hW6 hk67
  simp -implicitDefEqProofs (disch := first | omega | (simp only [St.set_n, St.up_n, List.length_cons, List.length_nil]; omega)) only [go_sem, Nat.reduceAdd, Nat.reduceMul, Nat.reduceSub, Int.reduceAdd, Int.reduceMul, Int.reduceSub, Int.reduceNeg, Int.reduceToNat]
  have hw10 := set_wf1 (y := .raw (.cells #[.slice Am (os.length + 2) cm, .int .i64 R.1.ca, .int .i64 0] 44 (0, 0))) hw9
  have hs10 : ∀ c y, s9.m c = some y → ((s9.set s9.n (.raw (.cells #[.slice Am (os.length + 2) cm, .int .i64 R.1.ca, .int .i64 0] 44 (0, 0)))).up (s9.n + 1)).m c = some y := fun c y hx => by
    have := (hw9.2 _ _ hx).2
    simp -implicitDefEqProofs (disch := first | omega | (simp only [St.set_n, St.up_n, List.length_cons, List.length_nil]; omega)) only [go_sem, Nat.reduceAdd, Nat.reduceMul, Nat.reduceSub, Int.reduceAdd, Int.reduceMul, Int.reduceSub, Int.reduceNeg, Int.reduceToNat, hx]
  have ht10 : ((s9.set s9.n (.raw (.cells #[.slice Am (os.length + 2) cm, .int .i64 R.1.ca, .int .i64 0] 44 (0, 0)))).up (s9.n + 1)).m s9.n = some (.raw (.cells #[.slice Am (os.length + 2) cm, .int .i64 R.1.ca, .int .i64 0] 44 (0, 0))) := by simp -implicitDefEqProofs (disch := first | omega | (simp only [St.set_n, St.up_n, List.length_cons, List.length_nil]; omega)) only [go_sem, Nat.reduceAdd, Nat.reduceMul, Nat.reduceSub, Int.reduceAdd, Int.reduceMul, Int.reduceSub, Int.reduceNeg, Int.reduceToNat]
  have hW10 := hW9.keep hs10 (by simp only [St.up_n]; omega)
  generalize (s9.set s9.n (.raw (.cells #[.slice Am (os.length + 2) cm, .int .i64 R.1.ca, .int .i64 0] 44 (0, 0)))).up (s9.n + 1) = s10 at hs10 ht10 hW10 hw10 ⊢
  have q1 := (hW10.w _ _ (on_got (u := u1))).1
  have q2 := (hW10.w _ _ (on_set hd (u := u1))).1
  have q3 := (hW10.w _ _ (on_cell hd (u := u1))).1
  have q4 := (hW10.w _ _ (on_lk hd (u := u1))).1
  have q5 := (hW10.w _ _ (hgH u1)).1
  have q6 := (hW10.w _ _ (hbc u1)).1
  have q7 := (hW10.w _ _ (hbo u1)).1
  rw [r4] at q3
  rw [r5] at q1
  rw [r6] at q2
  obtain ⟨Ar, cr, rfl, _⟩ := hO2.is
  have e2 : ((os.length + 2 : Nat) : Int) = (os.length : Int) + 2 := by omega
  refine SemS.seq (fun e s => OnF (.slice Ar os.length cr) g bc e ∧ OW σ (onH bgot bset cb b I) u1 s) (SemS.wp fun _ => ?_) ?_
  · by_cases hvo : value = old
    · simp only [hvo, decide_true] at q2
      simp -implicitDefEqProofs (disch := first | omega | (simp only [St.set_n, St.up_n, List.length_cons, List.length_nil]; omega)) only [go_sem, Nat.reduceAdd, Nat.reduceMul, Nat.reduceSub, Int.reduceAdd, Int.reduceMul, Int.reduceSub, Int.reduceNeg, Int.reduceToNat, ht10, q1, q2, q3, q4, q5, q6, q7, e2, hvo]
      refine callF_of (countI (c := #[.int .i64 u1.c.1, .int .i64 2]) (n := 2) q3 rfl ?_)
      simp -implicitDefEqProofs (disch := first | omega | (simp only [St.set_n, St.up_n, List.length_cons, List.length_nil]; omega)) only [go_sem, Nat.reduceAdd, Nat.reduceMul, Nat.reduceSub, Int.reduceAdd, Int.reduceMul, Int.reduceSub, Int.reduceNeg, Int.reduceToNat]
      refine callF_of (on_held (u := 3) (r := os) q5 q4 (by omega) (hheld _ r3) fun vh s11 hO11 hb11 hold11 hn11 hw11 => ?_)
      have hW11 := hW10.keep (fun c y hx => hold11 c y (hw10.2 _ _ hx).2 hx) hn11
      simp -implicitDefEqProofs (disch := first | omega | (simp only [St.set_n, St.up_n, List.length_cons, List.length_nil]; omega)) only [go_sem, Nat.reduceAdd, Nat.reduceMul, Nat.reduceSub, Int.reduceAdd, Int.reduceMul, Int.reduceSub, Int.reduceNeg, Int.reduceToNat]
      refine callF_of (same_ints (l := os) (l' := os) (by omega) hO11 (hO2.keepR fun b' o hb' ho => (hW11.w _ _ (hvH b' _ hb' ho u1)).1) ?_)
      simp only [decide_true]
      simp -implicitDefEqProofs (disch := first | omega | (simp only [St.set_n, St.up_n, List.length_cons, List.length_nil]; omega)) only [go_sem, Nat.reduceAdd, Nat.reduceMul, Nat.reduceSub, Int.reduceAdd, Int.reduceMul, Int.reduceSub, Int.reduceNeg, Int.reduceToNat]
      exact ⟨_, To.refl _ _, ⟨by simp -implicitDefEqProofs (disch := first | omega | (simp only [St.set_n, St.up_n, List.length_cons, List.length_nil]; omega)) only [go_sem, Nat.reduceAdd, Nat.reduceMul, Nat.reduceSub, Int.reduceAdd, Int.reduceMul, Int.reduceSub, Int.reduceNeg, Int.reduceToNat], by simp -implicitDefEqProofs (disch := first | omega | (simp only [St.set_n, St.up_n, List.length_cons, List.length_nil]; omega)) only [go_sem, Nat.reduceAdd, Nat.reduceMul, Nat.reduceSub, Int.reduceAdd, Int.reduceMul, Int.reduceSub, Int.reduceNeg, Int.reduceToNat], by simp -implicitDefEqProofs (disch := first | omega | (simp only [St.set_n, St.up_n, List.length_cons, List.length_nil]; omega)) only [go_sem, Nat.reduceAdd, Nat.reduceMul, Nat.reduceSub, Int.reduceAdd, Int.reduceMul, Int.reduceSub, Int.reduceNeg, Int.reduceToNat], by simp -implicitDefEqProofs (disch := first | omega | (simp only [St.set_n, St.up_n, List.length_cons, List.length_nil]; omega)) only [go_sem, Nat.reduceAdd, Nat.reduceMul, Nat.reduceSub, Int.reduceAdd, Int.reduceMul, Int.reduceSub, Int.reduceNeg, Int.reduceToNat]⟩, hW11⟩
    · simp only [hvo, decide_false] at q2
      simp -implicitDefEqProofs (disch := first | omega | (simp only [St.set_n, St.up_n, List.length_cons, List.length_nil]; omega)) only [go_sem, Nat.reduceAdd, Nat.reduceMul, Nat.reduceSub, Int.reduceAdd, Int.reduceMul, Int.reduceSub, Int.reduceNeg, Int.reduceToNat, ht10, q1, q2, q3, q4, q5, q6, q7, e2, hvo]
      refine callF_of (countI (c := #[.int .i64 u1.c.1, .int .i64 2]) (n := 2) q3 rfl ?_)
      simp -implicitDefEqProofs (disch := first | omega | (simp only [St.set_n, St.up_n, List.length_cons, List.length_nil]; omega)) only [go_sem, Nat.reduceAdd, Nat.reduceMul, Nat.reduceSub, Int.reduceAdd, Int.reduceMul, Int.reduceSub, Int.reduceNeg, Int.reduceToNat]
      refine callF_of (on_held (u := 3) (r := os) q5 q4 (by omega) (hheld _ r3) fun vh s11 hO11 hb11 hold11 hn11 hw11 => ?_)
      have hW11 := hW10.keep (fun c y hx => hold11 c y (hw10.2 _ _ hx).2 hx) hn11
      simp -implicitDefEqProofs (disch := first | omega | (simp only [St.set_n, St.up_n, List.length_cons, List.length_nil]; omega)) only [go_sem, Nat.reduceAdd, Nat.reduceMul, Nat.reduceSub, Int.reduceAdd, Int.reduceMul, Int.reduceSub, Int.reduceNeg, Int.reduceToNat]
      refine callF_of (same_ints (l := os) (l' := os) (by omega) hO11 (hO2.keepR fun b' o hb' ho => (hW11.w _ _ (hvH b' _ hb' ho u1)).1) ?_)
      simp only [decide_true]
      simp -implicitDefEqProofs (disch := first | omega | (simp only [St.set_n, St.up_n, List.length_cons, List.length_nil]; omega)) only [go_sem, Nat.reduceAdd, Nat.reduceMul, Nat.reduceSub, Int.reduceAdd, Int.reduceMul, Int.reduceSub, Int.reduceNeg, Int.reduceToNat]
      exact ⟨_, To.refl _ _, ⟨by simp -implicitDefEqProofs (disch := first | omega | (simp only [St.set_n, St.up_n, List.length_cons, List.length_nil]; omega)) only [go_sem, Nat.reduceAdd, Nat.reduceMul, Nat.reduceSub, Int.reduceAdd, Int.reduceMul, Int.reduceSub, Int.reduceNeg, Int.reduceToNat], by simp -implicitDefEqProofs (disch := first | omega | (simp only [St.set_n, St.up_n, List.length_cons, List.length_nil]; omega)) only [go_sem, Nat.reduceAdd, Nat.reduceMul, Nat.reduceSub, Int.reduceAdd, Int.reduceMul, Int.reduceSub, Int.reduceNeg, Int.reduceToNat], by simp -implicitDefEqProofs (disch := first | omega | (simp only [St.set_n, St.up_n, List.length_cons, List.length_nil]; omega)) only [go_sem, Nat.reduceAdd, Nat.reduceMul, Nat.reduceSub, Int.reduceAdd, Int.reduceMul, Int.reduceSub, Int.reduceNeg, Int.reduceToNat], by simp -implicitDefEqProofs (disch := first | omega | (simp only [St.set_n, St.up_n, List.length_cons, List.length_nil]; omega)) only [go_sem, Nat.reduceAdd, Nat.reduceMul, Nat.reduceSub, Int.reduceAdd, Int.reduceMul, Int.reduceSub, Int.reduceNeg, Int.reduceToNat]⟩, hW11⟩
  clear q1 q2 q3 q4 q5 q6 q7 hW10 hs10 ht10 hw10 hW9 hw9 hw7' hw5 hW
  rintro e s11 hw11 ⟨⟨f7, f8, f9, fd⟩, hW11⟩
  obtain ⟨R2, hR2⟩ : ∃ R, Sys.loopA (Y := lgSys (oL (B := B) (onH bgot bset cb b I)) 4) 70000 (Sys.picksA ⟨o2S os u1, [], 0⟩ []) = R := ⟨_, rfl⟩
  obtain ⟨t1, t2, t3⟩ := two_run (B := B) (H := onH bgot bset cb b I) hor hond hol r3 hR2
  refine SemS.seq (fun e s => OnF (.slice Ar os.length cr) g bc e ∧ OnT σ (onH bgot bset cb b I) os.length e s) (SemS.wp fun _ => ?_) ?_
  · have q6 : s11.m bc = _ := (hW11.w _ _ (hbc u1)).1
    simp -implicitDefEqProofs (disch := first | omega | (simp only [St.set_n, St.up_n, List.length_cons, List.length_nil]; omega)) only [go_sem, Nat.reduceAdd, Nat.reduceMul, Nat.reduceSub, Int.reduceAdd, Int.reduceMul, Int.reduceSub, Int.reduceNeg, Int.reduceToNat, f7, f8, f9, q6]
    refine effD_plan [0, 0, 3, 7, 0, 31, 0, 127, 255, 511, 0, 2047] [0, 1, 4, 6] (.eag 0 (.eag 1 (.eagq 4 (.eagq 6 (.alt 2 [4, 6] (.alt 3 [4, 6] (.alt 5 [6] (.alt 7 [] (.alt 8 [] (.alt 9 [] (.alt 10 [4, 6] (.alt 11 [] .fin .stop) .stop) (.alt 10 [4, 6] (.alt 9 [] (.alt 11 [] .fin .stop) .stop) .stop)) (.alt 10 [4, 6] (.alt 8 [] (.alt 9 [] (.alt 11 [] .fin .stop) .stop) .stop) .stop)) (.alt 10 [4, 6] (.alt 7 [] (.alt 8 [] (.alt 9 [] (.alt 11 [] .fin .stop) .stop) .stop) .stop) .stop)) (.alt 10 [4, 6] (.alt 5 [6] (.alt 7 [] (.alt 8 [] (.alt 9 [] (.alt 11 [] .fin .stop) .stop) .stop) .stop) .stop) .stop)) (.alt 10 [4, 6] (.alt 3 [4, 6] (.alt 5 [6] (.alt 7 [] (.alt 8 [] (.alt 9 [] (.alt 11 [] .fin .stop) .stop) .stop) .stop) .stop) .stop) .stop)) (.alt 10 [4, 6] (.alt 2 [4, 6] (.alt 3 [4, 6] (.alt 5 [6] (.alt 7 [] (.alt 8 [] (.alt 9 [] (.alt 11 [] .fin .stop) .stop) .stop) .stop) .stop) .stop) .stop) .stop)))))) (by kernel_rfl) ?_
    simp -implicitDefEqProofs (disch := first | omega | (simp only [St.set_n, St.up_n, List.length_cons, List.length_nil]; omega)) only [go_sem, Nat.reduceAdd, Nat.reduceMul, Nat.reduceSub, Int.reduceAdd, Int.reduceMul, Int.reduceSub, Int.reduceNeg, Int.reduceToNat, f7, f8, f9, q6]
    refine ⟨?_, ?_⟩
    · skip
      have q6 : s11.m bc = _ := (hW11.w _ _ (hbc u1)).1
      try simp -implicitDefEqProofs (disch := first | omega | (simp only [St.set_n, St.up_n, List.length_cons, List.length_nil]; omega)) only [go_sem, Nat.reduceAdd, Nat.reduceMul, Nat.reduceSub, Int.reduceAdd, Int.reduceMul, Int.reduceSub, Int.reduceNeg, Int.reduceToNat, f7, f8, f9, q6]
      refine callF_of (LgI.call (hW11.lgi (B := B) (A := Act) (ex := exO)) hw11 (fun G' K' hE hK' => free_of (L := oL (B := B) (onH bgot bset cb b I)) (t := 0) (n := 0) (ψs := fun os u => (u, os.map .fr)) (φ := freeW (onL hd) 3) (al := fun os => .fr (os.headD 0)) (rl := fun os => os.tail.map .fr) (lv := lkPtr b 8) ⟨_, rfl⟩ (fun i rest u => rfl) (fun i rest u => ⟨rfl, rfl, rfl⟩) os _ G' _ _ _ _ (fun i _ => at_ok (onL hd) (fun u => hgH u) i) (fun i _ => free_ok (onL hd) 3 i) (hOV _) (.inl ⟨rfl, fun u => rfl⟩) hE hK') fun v0 sm1 hIm1 hkm1 hnm1 hwm1 hv0 => ?_)
      simp only [List.cons_append, List.nil_append] at hIm1
      have q6 : sm1.m bc = _ := (LgI.at hIm1 (hbc _))
      simp -implicitDefEqProofs (disch := first | omega | (simp only [St.set_n, St.up_n, List.length_cons, List.length_nil]; omega)) only [go_sem, Nat.reduceAdd, Nat.reduceMul, Nat.reduceSub, Int.reduceAdd, Int.reduceMul, Int.reduceSub, Int.reduceNeg, Int.reduceToNat, f7, f8, f9, q6]
      refine ⟨?_, ?_⟩
      · skip
        have q6 : sm1.m bc = _ := (LgI.at hIm1 (hbc _))
        try simp -implicitDefEqProofs (disch := first | omega | (simp only [St.set_n, St.up_n, List.length_cons, List.length_nil]; omega)) only [go_sem, Nat.reduceAdd, Nat.reduceMul, Nat.reduceSub, Int.reduceAdd, Int.reduceMul, Int.reduceSub, Int.reduceNeg, Int.reduceToNat, f7, f8, f9, q6]
        refine callF_of (LgI.call hIm1 hwm1 (fun G' K' hE hK' => do_of (L := oL (B := B) (onH bgot bset cb b I)) (t := 1) (n := 0) (a := .ef 0) (r := []) (φ := fun u => u) (η := fun _ => _) (ψ := fun _ u => (u, [])) (.inl ⟨rfl, fun u => ⟨rfl, rfl⟩⟩) (fun _ _ h => h) (fun _ => .inl ⟨rfl, fun u => rfl⟩) (fun u => ⟨rfl, rfl, rfl⟩) hE hK') fun v1 sm2 hIm2 hkm2 hnm2 hwm2 hv1 => ?_)
        simp only [List.cons_append, List.nil_append] at hIm2
        have q6 : sm2.m bc = _ := (LgI.at hIm2 (hbc _))
        simp -implicitDefEqProofs (disch := first | omega | (simp only [St.set_n, St.up_n, List.length_cons, List.length_nil]; omega)) only [go_sem, Nat.reduceAdd, Nat.reduceMul, Nat.reduceSub, Int.reduceAdd, Int.reduceMul, Int.reduceSub, Int.reduceNeg, Int.reduceToNat, f7, f8, f9, q6]
        refine ⟨?_, ?_⟩
        · skip
          have q6 : sm2.m bc = _ := (LgI.at hIm2 (hbc _))
          try simp -implicitDefEqProofs (disch := first | omega | (simp only [St.set_n, St.up_n, List.length_cons, List.length_nil]; omega)) only [go_sem, Nat.reduceAdd, Nat.reduceMul, Nat.reduceSub, Int.reduceAdd, Int.reduceMul, Int.reduceSub, Int.reduceNeg, Int.reduceToNat, f7, f8, f9, q6]
          refine callF_of (LgI.call hIm2 hwm2 (fun G' K' hE hK' => load_of (L := oL (B := B) (onH bgot bset cb b I)) (t := 2) (n := 0) (a := .ef 1) (r := []) (val := fun u => u.c.1) (φ := loadW (onC hd)) (ψ := fun _ u => (u, [])) ⟨_, rfl⟩ (load_ok (onC hd)) (.inl ⟨rfl, fun _ u => rfl⟩) (fun u => ⟨rfl, rfl, rfl⟩) hE hK') fun v2 sm3 hIm3 hkm3 hnm3 hwm3 hv2 => ?_)
          simp only [List.cons_append, List.nil_append] at hIm3
          have q6 : sm3.m bc = _ := (LgI.at hIm3 (hbc _))
          simp -implicitDefEqProofs (disch := first | omega | (simp only [St.set_n, St.up_n, List.length_cons, List.length_nil]; omega)) only [go_sem, Nat.reduceAdd, Nat.reduceMul, Nat.reduceSub, Int.reduceAdd, Int.reduceMul, Int.reduceSub, Int.reduceNeg, Int.reduceToNat, f7, f8, f9, q6]
          refine ⟨?_, ?_⟩
          · skip
            have q6 : sm3.m bc = _ := (LgI.at hIm3 (hbc _))
            try simp -implicitDefEqProofs (disch := first | omega | (simp only [St.set_n, St.up_n, List.length_cons, List.length_nil]; omega)) only [go_sem, Nat.reduceAdd, Nat.reduceMul, Nat.reduceSub, Int.reduceAdd, Int.reduceMul, Int.reduceSub, Int.reduceNeg, Int.reduceToNat, f7, f8, f9, q6]
            refine callF_of (LgI.call hIm3 hwm3 (fun G' K' hE hK' => cas_of (L := oL (B := B) (onH bgot bset cb b I)) (t := 3) (n := 0) (a := .ef 2) (r := []) (ok := fun u => decide (u.c.1 = 7)) (φ := casW (onC hd) 7 7) (ψ := fun _ u => (u, [])) ⟨_, rfl⟩ (cas_ok (onC hd) 7 7) (.inl ⟨rfl, fun _ u => rfl⟩) (fun u => ⟨rfl, rfl, rfl⟩) hE hK') fun v3 sm4 hIm4 hkm4 hnm4 hwm4 hv3 => ?_)
            simp only [List.cons_append, List.nil_append] at hIm4
            have q6 : sm4.m bc = _ := (LgI.at hIm4 (hbc _))
            simp -implicitDefEqProofs (disch := first | omega | (simp only [St.set_n, St.up_n, List.length_cons, List.length_nil]; omega)) only [go_sem, Nat.reduceAdd, Nat.reduceMul, Nat.reduceSub, Int.reduceAdd, Int.reduceMul, Int.reduceSub, Int.reduceNeg, Int.reduceToNat, f7, f8, f9, q6]
            refine ⟨?_, ?_⟩
            · skip
              have q6 : sm4.m bc = _ := (LgI.at hIm4 (hbc _))
              try simp -implicitDefEqProofs (disch := first | omega | (simp only [St.set_n, St.up_n, List.length_cons, List.length_nil]; omega)) only [go_sem, Nat.reduceAdd, Nat.reduceMul, Nat.reduceSub, Int.reduceAdd, Int.reduceMul, Int.reduceSub, Int.reduceNeg, Int.reduceToNat, f7, f8, f9, q6]
              refine bslK_ones (vs := [v0, v1, v2, v3]) se28 zr34 rfl (four_one hv0 hv1 hv2 hv3) rfl rfl (by omega) ?_
              have hkm5 : ∀ c y, sm4.m c = some y → ((sm4.set sm4.n (.raw (.cells [v0, v1, v2, v3].toArray 34 (0, 0)))).up (sm4.n + 1)).m c = some y := fun c y hx => by
                have := (hwm4.2 _ _ hx).2
                simp -implicitDefEqProofs (disch := first | omega | (simp only [St.set_n, St.up_n, List.length_cons, List.length_nil]; omega)) only [go_sem, Nat.reduceAdd, Nat.reduceMul, Nat.reduceSub, Int.reduceAdd, Int.reduceMul, Int.reduceSub, Int.reduceNeg, Int.reduceToNat, hx]
              have hwm5 := set_wf1 (y := (.raw (.cells [v0, v1, v2, v3].toArray 34 (0, 0)))) hwm4
              have hmm5 : ((sm4.set sm4.n (.raw (.cells [v0, v1, v2, v3].toArray 34 (0, 0)))).up (sm4.n + 1)).m sm4.n = some (.raw (.cells [v0, v1, v2, v3].toArray 34 (0, 0))) := by simp -implicitDefEqProofs (disch := first | omega | (simp only [St.set_n, St.up_n, List.length_cons, List.length_nil]; omega)) only [go_sem, Nat.reduceAdd, Nat.reduceMul, Nat.reduceSub, Int.reduceAdd, Int.reduceMul, Int.reduceSub, Int.reduceNeg, Int.reduceToNat]
              have hnm5 : sm4.n ≤ ((sm4.set sm4.n (.raw (.cells [v0, v1, v2, v3].toArray 34 (0, 0)))).up (sm4.n + 1)).n := by simp only [St.up_n]; omega
              generalize ((sm4.set sm4.n (.raw (.cells [v0, v1, v2, v3].toArray 34 (0, 0)))).up (sm4.n + 1)) = sm5 at hkm5 hwm5 hmm5 hnm5 ⊢
              have hIm5 := LgI.keep hIm4 hkm5 hnm5
              have q6 : sm5.m bc = _ := (LgI.at hIm5 (hbc _))
              simp -implicitDefEqProofs (disch := first | omega | (simp only [St.set_n, St.up_n, List.length_cons, List.length_nil]; omega)) only [go_sem, Nat.reduceAdd, Nat.reduceMul, Nat.reduceSub, Int.reduceAdd, Int.reduceMul, Int.reduceSub, Int.reduceNeg, Int.reduceToNat, f7, f8, f9, q6]
              refine ⟨?_, ?_⟩
              · skip
                have q6 : sm5.m bc = _ := (LgI.at hIm5 (hbc _))
                try simp -implicitDefEqProofs (disch := first | omega | (simp only [St.set_n, St.up_n, List.length_cons, List.length_nil]; omega)) only [go_sem, Nat.reduceAdd, Nat.reduceMul, Nat.reduceSub, Int.reduceAdd, Int.reduceMul, Int.reduceSub, Int.reduceNeg, Int.reduceToNat, f7, f8, f9, q6]
                have hIo := hIm5
                rw [o2_eq] at hIo
                have hsl := hmm5
                refine callF_wf (m_run (Y := lgSys (oL (B := B) (onH bgot bset cb b I)) 4) (x0 := o2S os u1) hIo (show (4 : Nat) ≤ 1000 by omega) (by simp) ⟨⟨_, _, rfl⟩, fc_block hsl rfl⟩ (fun s hs => fc_block (by rw [hs _ (hwm5.2 _ _ hsl).2]; exact hsl) rfl) slR_nil hR2 fun mv vs' sR om hIR hnR hkR hwR => ?_)
                rw [t1]
                obtain ⟨Am2, cm2, rfl, _⟩ := om.is
                rw [t2]
                have q6 : sR.m bc = _ := (LgI.at (H := onH bgot bset cb b I) hIR (hbc _))
                have q6n := (hwR.2 _ _ q6).2
                simp -implicitDefEqProofs (disch := first | omega | (simp only [St.set_n, St.up_n, List.length_cons, List.length_nil]; omega)) only [go_sem, Nat.reduceAdd, Nat.reduceMul, Nat.reduceSub, Int.reduceAdd, Int.reduceMul, Int.reduceSub, Int.reduceNeg, Int.reduceToNat, f7, f8, f9, q6, q6n]
                have hWR := (LgI.ow hIR (fun c y hx => hkR c y (hwf.2 _ _ hx).2 ((fun c y hx => hkm5 c y ((fun c y hx => hkm4 c y (hwf.2 _ _ hx).2 ((fun c y hx => hkm3 c y (hwf.2 _ _ hx).2 ((fun c y hx => hkm2 c y (hwf.2 _ _ hx).2 ((fun c y hx => hkm1 c y (hwf.2 _ _ hx).2 (hW11.old c y hx)) c y hx)) c y hx)) c y hx)) c y hx)) c y hx)) (Nat.le_trans (Nat.le_trans (Nat.le_trans (Nat.le_trans (Nat.le_trans (Nat.le_trans hW11.n hnm1) hnm2) hnm3) hnm4) hnm5) hnR)).keep (s' := (sR.set sR.n (.raw (.cells #[.slice Am2 (os.length + 3) cm2, .int .i64 R2.1.ca, .int .i64 0] 44 (0, 0)))).up (sR.n + 1)) (fun c y hx => by have := (hwR.2 _ _ hx).2; simp -implicitDefEqProofs (disch := first | omega | (simp only [St.set_n, St.up_n, List.length_cons, List.length_nil]; omega)) only [go_sem, Nat.reduceAdd, Nat.reduceMul, Nat.reduceSub, Int.reduceAdd, Int.reduceMul, Int.reduceSub, Int.reduceNeg, Int.reduceToNat, hx]) (by simp only [St.up_n]; omega)
                exact ⟨_, To.refl _ _, ⟨by simp -implicitDefEqProofs (disch := first | omega | (simp only [St.set_n, St.up_n, List.length_cons, List.length_nil]; omega)) only [go_sem, Nat.reduceAdd, Nat.reduceMul, Nat.reduceSub, Int.reduceAdd, Int.reduceMul, Int.reduceSub, Int.reduceNeg, Int.reduceToNat, f7], by simp -implicitDefEqProofs (disch := first | omega | (simp only [St.set_n, St.up_n, List.length_cons, List.length_nil]; omega)) only [go_sem, Nat.reduceAdd, Nat.reduceMul, Nat.reduceSub, Int.reduceAdd, Int.reduceMul, Int.reduceSub, Int.reduceNeg, Int.reduceToNat, f8], by simp -implicitDefEqProofs (disch := first | omega | (simp only [St.set_n, St.up_n, List.length_cons, List.length_nil]; omega)) only [go_sem, Nat.reduceAdd, Nat.reduceMul, Nat.reduceSub, Int.reduceAdd, Int.reduceMul, Int.reduceSub, Int.reduceNeg, Int.reduceToNat, f9], by simp -implicitDefEqProofs (disch := first | omega | (simp only [St.set_n, St.up_n, List.length_cons, List.length_nil]; omega)) only [go_sem, Nat.reduceAdd, Nat.reduceMul, Nat.reduceSub, Int.reduceAdd, Int.reduceMul, Int.reduceSub, Int.reduceNeg, Int.reduceToNat, fd]⟩, ⟨sR.n, Am2, cm2, R2.1.ca, R2.1.x.1, by simp -implicitDefEqProofs (disch := first | omega | (simp only [St.set_n, St.up_n, List.length_cons, List.length_nil]; omega)) only [go_sem, Nat.reduceAdd, Nat.reduceMul, Nat.reduceSub, Int.reduceAdd, Int.reduceMul, Int.reduceSub, Int.reduceNeg, Int.reduceToNat], by simp -implicitDefEqProofs (disch := first | omega | (simp only [St.set_n, St.up_n, List.length_cons, List.length_nil]; omega)) only [go_sem, Nat.reduceAdd, Nat.reduceMul, Nat.reduceSub, Int.reduceAdd, Int.reduceMul, Int.reduceSub, Int.reduceNeg, Int.reduceToNat], hWR, t3⟩⟩
              · skip
                have q6 : sm5.m bc = _ := (LgI.at hIm5 (hbc _))
                have q6n := (hwm5.2 _ _ q6).2
                try simp -implicitDefEqProofs (disch := first | omega | (simp only [St.set_n, St.up_n, List.length_cons, List.length_nil]; omega)) only [go_sem, Nat.reduceAdd, Nat.reduceMul, Nat.reduceSub, Int.reduceAdd, Int.reduceMul, Int.reduceSub, Int.reduceNeg, Int.reduceToNat, f7, f8, f9, q6, q6n]
                have hIa5 := LgI.alloc hIm5 hwm5 (.raw (.cells #[.slice none 0 0, .int .i64 0, .int .i64 0] 44 (0, 0)))
                have hwa5 := set_wf1 (y := (.raw (.cells #[.slice none 0 0, .int .i64 0, .int .i64 0] 44 (0, 0)))) hwm5
                have hka5 : ∀ c y, sm5.m c = some y → ((sm5.set sm5.n (.raw (.cells #[.slice none 0 0, .int .i64 0, .int .i64 0] 44 (0, 0)))).up (sm5.n + 1)).m c = some y := fun c y hx => by
                  have := (hwm5.2 _ _ hx).2
                  simp -implicitDefEqProofs (disch := first | omega | (simp only [St.set_n, St.up_n, List.length_cons, List.length_nil]; omega)) only [go_sem, Nat.reduceAdd, Nat.reduceMul, Nat.reduceSub, Int.reduceAdd, Int.reduceMul, Int.reduceSub, Int.reduceNeg, Int.reduceToNat, hx]
                have hta5 : ((sm5.set sm5.n (.raw (.cells #[.slice none 0 0, .int .i64 0, .int .i64 0] 44 (0, 0)))).up (sm5.n + 1)).m sm5.n = some (.raw (.cells #[.slice none 0 0, .int .i64 0, .int .i64 0] 44 (0, 0))) := by simp -implicitDefEqProofs (disch := first | omega | (simp only [St.set_n, St.up_n, List.length_cons, List.length_nil]; omega)) only [go_sem, Nat.reduceAdd, Nat.reduceMul, Nat.reduceSub, Int.reduceAdd, Int.reduceMul, Int.reduceSub, Int.reduceNeg, Int.reduceToNat]
                have hna5 : sm5.n ≤ ((sm5.set sm5.n (.raw (.cells #[.slice none 0 0, .int .i64 0, .int .i64 0] 44 (0, 0)))).up (sm5.n + 1)).n := by simp only [St.up_n]; omega
                have htna5 : σ.n ≤ sm5.n := (Nat.le_trans (Nat.le_trans (Nat.le_trans (Nat.le_trans (Nat.le_trans hW11.n hnm1) hnm2) hnm3) hnm4) hnm5)
                generalize ((sm5.set sm5.n (.raw (.cells #[.slice none 0 0, .int .i64 0, .int .i64 0] 44 (0, 0)))).up (sm5.n + 1)) = sa5 at hIa5 hwa5 hka5 hta5 hna5 ⊢
                generalize sm5.n = tb at hIa5 hta5 htna5 ⊢
                have q6 : sa5.m bc = _ := (LgI.at hIa5 (hbc u1))
                try simp -implicitDefEqProofs (disch := first | omega | (simp only [St.set_n, St.up_n, List.length_cons, List.length_nil]; omega)) only [go_sem, Nat.reduceAdd, Nat.reduceMul, Nat.reduceSub, Int.reduceAdd, Int.reduceMul, Int.reduceSub, Int.reduceNeg, Int.reduceToNat, f7, f8, f9, q6]
                have q6 : sa5.m bc = _ := (LgI.at hIa5 (hbc u1))
                try simp -implicitDefEqProofs (disch := first | omega | (simp only [St.set_n, St.up_n, List.length_cons, List.length_nil]; omega)) only [go_sem, Nat.reduceAdd, Nat.reduceMul, Nat.reduceSub, Int.reduceAdd, Int.reduceMul, Int.reduceSub, Int.reduceNeg, Int.reduceToNat, f7, f8, f9, q6]
                have hIo := hIa5
                rw [o2_eq] at hIo
                have hsl := (hka5 _ _ hmm5)
                refine callF_wf (m_run (Y := lgSys (oL (B := B) (onH bgot bset cb b I)) 4) (x0 := o2S os u1) hIo (show (4 : Nat) ≤ 1000 by omega) (by simp) ⟨⟨_, _, rfl⟩, fc_block hsl rfl⟩ (fun s hs => fc_block (by rw [hs _ (hwa5.2 _ _ hsl).2]; exact hsl) rfl) slR_nil hR2 fun mv vs' sR om hIR hnR hkR hwR => ?_)
                rw [t1]
                obtain ⟨Am2, cm2, rfl, _⟩ := om.is
                rw [t2]
                have q6 : sR.m bc = _ := (LgI.at (H := onH bgot bset cb b I) hIR (hbc _))
                have htR := hkR _ _ (.inr rfl) hta5
                simp -implicitDefEqProofs (disch := first | omega | (simp only [St.set_n, St.up_n, List.length_cons, List.length_nil]; omega)) only [go_sem, Nat.reduceAdd, Nat.reduceMul, Nat.reduceSub, Int.reduceAdd, Int.reduceMul, Int.reduceSub, Int.reduceNeg, Int.reduceToNat, f7, f8, f9, q6, htR]
                exact ⟨_, To.refl _ _, ⟨by simp -implicitDefEqProofs (disch := first | omega | (simp only [St.set_n, St.up_n, List.length_cons, List.length_nil]; omega)) only [go_sem, Nat.reduceAdd, Nat.reduceMul, Nat.reduceSub, Int.reduceAdd, Int.reduceMul, Int.reduceSub, Int.reduceNeg, Int.reduceToNat, f7], by simp -implicitDefEqProofs (disch := first | omega | (simp only [St.set_n, St.up_n, List.length_cons, List.length_nil]; omega)) only [go_sem, Nat.reduceAdd, Nat.reduceMul, Nat.reduceSub, Int.reduceAdd, Int.reduceMul, Int.reduceSub, Int.reduceNeg, Int.reduceToNat, f8], by simp -implicitDefEqProofs (disch := first | omega | (simp only [St.set_n, St.up_n, List.length_cons, List.length_nil]; omega)) only [go_sem, Nat.reduceAdd, Nat.reduceMul, Nat.reduceSub, Int.reduceAdd, Int.reduceMul, Int.reduceSub, Int.reduceNeg, Int.reduceToNat, f9], by simp -implicitDefEqProofs (disch := first | omega | (simp only [St.set_n, St.up_n, List.length_cons, List.length_nil]; omega)) only [go_sem, Nat.reduceAdd, Nat.reduceMul, Nat.reduceSub, Int.reduceAdd, Int.reduceMul, Int.reduceSub, Int.reduceNeg, Int.reduceToNat, fd]⟩, ⟨tb, Am2, cm2, R2.1.ca, R2.1.x.1, by simp -implicitDefEqProofs (disch := first | omega | (simp only [St.set_n, St.up_n, List.length_cons, List.length_nil]; omega)) only [go_sem, Nat.reduceAdd, Nat.reduceMul, Nat.reduceSub, Int.reduceAdd, Int.reduceMul, Int.reduceSub, Int.reduceNeg, Int.reduceToNat], by simp -implicitDefEqProofs (disch := first | omega | (simp only [St.set_n, St.up_n, List.length_cons, List.length_nil]; omega)) only [go_sem, Nat.reduceAdd, Nat.reduceMul, Nat.reduceSub, Int.reduceAdd, Int.reduceMul, Int.reduceSub, Int.reduceNeg, Int.reduceToNat], LgI.owE hIR (fun c y hx => hkR c y (.inl (hwf.2 _ _ hx).2) ((fun c y hx => hka5 c y ((fun c y hx => hkm5 c y ((fun c y hx => hkm4 c y (hwf.2 _ _ hx).2 ((fun c y hx => hkm3 c y (hwf.2 _ _ hx).2 ((fun c y hx => hkm2 c y (hwf.2 _ _ hx).2 ((fun c y hx => hkm1 c y (hwf.2 _ _ hx).2 (hW11.old c y hx)) c y hx)) c y hx)) c y hx)) c y hx)) c y hx)) c y hx)) (Nat.le_trans (Nat.le_trans (Nat.le_trans (Nat.le_trans (Nat.le_trans (Nat.le_trans (Nat.le_trans hW11.n hnm1) hnm2) hnm3) hnm4) hnm5) hna5) hnR) htna5 hwf _, t3⟩⟩
            · skip
              have q6 : sm4.m bc = _ := (LgI.at hIm4 (hbc _))
              have q6n := (hwm4.2 _ _ q6).2
              try simp -implicitDefEqProofs (disch := first | omega | (simp only [St.set_n, St.up_n, List.length_cons, List.length_nil]; omega)) only [go_sem, Nat.reduceAdd, Nat.reduceMul, Nat.reduceSub, Int.reduceAdd, Int.reduceMul, Int.reduceSub, Int.reduceNeg, Int.reduceToNat, f7, f8, f9, q6, q6n]
              have hIa4 := LgI.alloc hIm4 hwm4 (.raw (.cells #[.slice none 0 0, .int .i64 0, .int .i64 0] 44 (0, 0)))
              have hwa4 := set_wf1 (y := (.raw (.cells #[.slice none 0 0, .int .i64 0, .int .i64 0] 44 (0, 0)))) hwm4
              have hka4 : ∀ c y, sm4.m c = some y → ((sm4.set sm4.n (.raw (.cells #[.slice none 0 0, .int .i64 0, .int .i64 0] 44 (0, 0)))).up (sm4.n + 1)).m c = some y := fun c y hx => by
                have := (hwm4.2 _ _ hx).2
                simp -implicitDefEqProofs (disch := first | omega | (simp only [St.set_n, St.up_n, List.length_cons, List.length_nil]; omega)) only [go_sem, Nat.reduceAdd, Nat.reduceMul, Nat.reduceSub, Int.reduceAdd, Int.reduceMul, Int.reduceSub, Int.reduceNeg, Int.reduceToNat, hx]
              have hta4 : ((sm4.set sm4.n (.raw (.cells #[.slice none 0 0, .int .i64 0, .int .i64 0] 44 (0, 0)))).up (sm4.n + 1)).m sm4.n = some (.raw (.cells #[.slice none 0 0, .int .i64 0, .int .i64 0] 44 (0, 0))) := by simp -implicitDefEqProofs (disch := first | omega | (simp only [St.set_n, St.up_n, List.length_cons, List.length_nil]; omega)) only [go_sem, Nat.reduceAdd, Nat.reduceMul, Nat.reduceSub, Int.reduceAdd, Int.reduceMul, Int.reduceSub, Int.reduceNeg, Int.reduceToNat]
              have hna4 : sm4.n ≤ ((sm4.set sm4.n (.raw (.cells #[.slice none 0 0, .int .i64 0, .int .i64 0] 44 (0, 0)))).up (sm4.n + 1)).n := by simp only [St.up_n]; omega
              have htna4 : σ.n ≤ sm4.n := (Nat.le_trans (Nat.le_trans (Nat.le_trans (Nat.le_trans hW11.n hnm1) hnm2) hnm3) hnm4)
              generalize ((sm4.set sm4.n (.raw (.cells #[.slice none 0 0, .int .i64 0, .int .i64 0] 44 (0, 0)))).up (sm4.n + 1)) = sa4 at hIa4 hwa4 hka4 hta4 hna4 ⊢
              generalize sm4.n = tb at hIa4 hta4 htna4 ⊢
              have q6 : sa4.m bc = _ := (LgI.at hIa4 (hbc u1))
              try simp -implicitDefEqProofs (disch := first | omega | (simp only [St.set_n, St.up_n, List.length_cons, List.length_nil]; omega)) only [go_sem, Nat.reduceAdd, Nat.reduceMul, Nat.reduceSub, Int.reduceAdd, Int.reduceMul, Int.reduceSub, Int.reduceNeg, Int.reduceToNat, f7, f8, f9, q6]
              have q6 : sa4.m bc = _ := (LgI.at hIa4 (hbc u1))
              try simp -implicitDefEqProofs (disch := first | omega | (simp only [St.set_n, St.up_n, List.length_cons, List.length_nil]; omega)) only [go_sem, Nat.reduceAdd, Nat.reduceMul, Nat.reduceSub, Int.reduceAdd, Int.reduceMul, Int.reduceSub, Int.reduceNeg, Int.reduceToNat, f7, f8, f9, q6]
              refine bslK_ones (vs := [v0, v1, v2, v3]) se28 zr34 rfl (four_one hv0 hv1 hv2 hv3) rfl rfl (by omega) ?_
              have hka45 : ∀ c y, sa4.m c = some y → ((sa4.set sa4.n (.raw (.cells [v0, v1, v2, v3].toArray 34 (0, 0)))).up (sa4.n + 1)).m c = some y := fun c y hx => by
                have := (hwa4.2 _ _ hx).2
                simp -implicitDefEqProofs (disch := first | omega | (simp only [St.set_n, St.up_n, List.length_cons, List.length_nil]; omega)) only [go_sem, Nat.reduceAdd, Nat.reduceMul, Nat.reduceSub, Int.reduceAdd, Int.reduceMul, Int.reduceSub, Int.reduceNeg, Int.reduceToNat, hx]
              have hwa45 := set_wf1 (y := (.raw (.cells [v0, v1, v2, v3].toArray 34 (0, 0)))) hwa4
              have hma45 : ((sa4.set sa4.n (.raw (.cells [v0, v1, v2, v3].toArray 34 (0, 0)))).up (sa4.n + 1)).m sa4.n = some (.raw (.cells [v0, v1, v2, v3].toArray 34 (0, 0))) := by simp -implicitDefEqProofs (disch := first | omega | (simp only [St.set_n, St.up_n, List.length_cons, List.length_nil]; omega)) only [go_sem, Nat.reduceAdd, Nat.reduceMul, Nat.reduceSub, Int.reduceAdd, Int.reduceMul, Int.reduceSub, Int.reduceNeg, Int.reduceToNat]
              have hna45 : sa4.n ≤ ((sa4.set sa4.n (.raw (.cells [v0, v1, v2, v3].toArray 34 (0, 0)))).up (sa4.n + 1)).n := by simp only [St.up_n]; omega
              generalize ((sa4.set sa4.n (.raw (.cells [v0, v1, v2, v3].toArray 34 (0, 0)))).up (sa4.n + 1)) = sa45 at hka45 hwa45 hma45 hna45 ⊢
              have hIa45 := LgI.keep hIa4 hka45 hna45
              have q6 : sa45.m bc = _ := (LgI.at hIa45 (hbc _))
              simp -implicitDefEqProofs (disch := first | omega | (simp only [St.set_n, St.up_n, List.length_cons, List.length_nil]; omega)) only [go_sem, Nat.reduceAdd, Nat.reduceMul, Nat.reduceSub, Int.reduceAdd, Int.reduceMul, Int.reduceSub, Int.reduceNeg, Int.reduceToNat, f7, f8, f9, q6]
              have q6 : sa45.m bc = _ := (LgI.at hIa45 (hbc _))
              try simp -implicitDefEqProofs (disch := first | omega | (simp only [St.set_n, St.up_n, List.length_cons, List.length_nil]; omega)) only [go_sem, Nat.reduceAdd, Nat.reduceMul, Nat.reduceSub, Int.reduceAdd, Int.reduceMul, Int.reduceSub, Int.reduceNeg, Int.reduceToNat, f7, f8, f9, q6]
              have hIo := hIa45
              rw [o2_eq] at hIo
              have hsl := hma45
              refine callF_wf (m_run (Y := lgSys (oL (B := B) (onH bgot bset cb b I)) 4) (x0 := o2S os u1) hIo (show (4 : Nat) ≤ 1000 by omega) (by simp) ⟨⟨_, _, rfl⟩, fc_block hsl rfl⟩ (fun s hs => fc_block (by rw [hs _ (hwa45.2 _ _ hsl).2]; exact hsl) rfl) slR_nil hR2 fun mv vs' sR om hIR hnR hkR hwR => ?_)
              rw [t1]
              obtain ⟨Am2, cm2, rfl, _⟩ := om.is
              rw [t2]
              have q6 : sR.m bc = _ := (LgI.at (H := onH bgot bset cb b I) hIR (hbc _))
              have htR := hkR _ _ (.inr rfl) (hka45 _ _ hta4)
              simp -implicitDefEqProofs (disch := first | omega | (simp only [St.set_n, St.up_n, List.length_cons, List.length_nil]; omega)) only [go_sem, Nat.reduceAdd, Nat.reduceMul, Nat.reduceSub, Int.reduceAdd, Int.reduceMul, Int.reduceSub, Int.reduceNeg, Int.reduceToNat, f7, f8, f9, q6, htR]
              exact ⟨_, To.refl _ _, ⟨by simp -implicitDefEqProofs (disch := first | omega | (simp only [St.set_n, St.up_n, List.length_cons, List.length_nil]; omega)) only [go_sem, Nat.reduceAdd, Nat.reduceMul, Nat.reduceSub, Int.reduceAdd, Int.reduceMul, Int.reduceSub, Int.reduceNeg, Int.reduceToNat, f7], by simp -implicitDefEqProofs (disch := first | omega | (simp only [St.set_n, St.up_n, List.length_cons, List.length_nil]; omega)) only [go_sem, Nat.reduceAdd, Nat.reduceMul, Nat.reduceSub, Int.reduceAdd, Int.reduceMul, Int.reduceSub, Int.reduceNeg, Int.reduceToNat, f8], by simp -implicitDefEqProofs (disch := first | omega | (simp only [St.set_n, St.up_n, List.length_cons, List.length_nil]; omega)) only [go_sem, Nat.reduceAdd, Nat.reduceMul, Nat.reduceSub, Int.reduceAdd, Int.reduceMul, Int.reduceSub, Int.reduceNeg, Int.reduceToNat, f9], by simp -implicitDefEqProofs (disch := first | omega | (simp only [St.set_n, St.up_n, List.length_cons, List.length_nil]; omega)) only [go_sem, Nat.reduceAdd, Nat.reduceMul, Nat.reduceSub, Int.reduceAdd, Int.reduceMul, Int.reduceSub, Int.reduceNeg, Int.reduceToNat, fd]⟩, ⟨tb, Am2, cm2, R2.1.ca, R2.1.x.1, by simp -implicitDefEqProofs (disch := first | omega | (simp only [St.set_n, St.up_n, List.length_cons, List.length_nil]; omega)) only [go_sem, Nat.reduceAdd, Nat.reduceMul, Nat.reduceSub, Int.reduceAdd, Int.reduceMul, Int.reduceSub, Int.reduceNeg, Int.reduceToNat], by simp -implicitDefEqProofs (disch := first | omega | (simp only [St.set_n, St.up_n, List.length_cons, List.length_nil]; omega)) only [go_sem, Nat.reduceAdd, Nat.reduceMul, Nat.reduceSub, Int.reduceAdd, Int.reduceMul, Int.reduceSub, Int.reduceNeg, Int.reduceToNat], LgI.owE hIR (fun c y hx => hkR c y (.inl (hwf.2 _ _ hx).2) ((fun c y hx => hka45 c y ((fun c y hx => hka4 c y ((fun c y hx => hkm4 c y (hwf.2 _ _ hx).2 ((fun c y hx => hkm3 c y (hwf.2 _ _ hx).2 ((fun c y hx => hkm2 c y (hwf.2 _ _ hx).2 ((fun c y hx => hkm1 c y (hwf.2 _ _ hx).2 (hW11.old c y hx)) c y hx)) c y hx)) c y hx)) c y hx)) c y hx)) c y hx)) (Nat.le_trans (Nat.le_trans (Nat.le_trans (Nat.le_trans (Nat.le_trans (Nat.le_trans (Nat.le_trans hW11.n hnm1) hnm2) hnm3) hnm4) hna4) hna45) hnR) htna4 hwf _, t3⟩⟩
          · skip
            have q6 : sm3.m bc = _ := (LgI.at hIm3 (hbc _))
            have q6n := (hwm3.2 _ _ q6).2
            try simp -implicitDefEqProofs (disch := first | omega | (simp only [St.set_n, St.up_n, List.length_cons, List.length_nil]; omega)) only [go_sem, Nat.reduceAdd, Nat.reduceMul, Nat.reduceSub, Int.reduceAdd, Int.reduceMul, Int.reduceSub, Int.reduceNeg, Int.reduceToNat, f7, f8, f9, q6, q6n]
            have hIa3 := LgI.alloc hIm3 hwm3 (.raw (.cells #[.slice none 0 0, .int .i64 0, .int .i64 0] 44 (0, 0)))
            have hwa3 := set_wf1 (y := (.raw (.cells #[.slice none 0 0, .int .i64 0, .int .i64 0] 44 (0, 0)))) hwm3
            have hka3 : ∀ c y, sm3.m c = some y → ((sm3.set sm3.n (.raw (.cells #[.slice none 0 0, .int .i64 0, .int .i64 0] 44 (0, 0)))).up (sm3.n + 1)).m c = some y := fun c y hx => by
              have := (hwm3.2 _ _ hx).2
              simp -implicitDefEqProofs (disch := first | omega | (simp only [St.set_n, St.up_n, List.length_cons, List.length_nil]; omega)) only [go_sem, Nat.reduceAdd, Nat.reduceMul, Nat.reduceSub, Int.reduceAdd, Int.reduceMul, Int.reduceSub, Int.reduceNeg, Int.reduceToNat, hx]
            have hta3 : ((sm3.set sm3.n (.raw (.cells #[.slice none 0 0, .int .i64 0, .int .i64 0] 44 (0, 0)))).up (sm3.n + 1)).m sm3.n = some (.raw (.cells #[.slice none 0 0, .int .i64 0, .int .i64 0] 44 (0, 0))) := by simp -implicitDefEqProofs (disch := first | omega | (simp only [St.set_n, St.up_n, List.length_cons, List.length_nil]; omega)) only [go_sem, Nat.reduceAdd, Nat.reduceMul, Nat.reduceSub, Int.reduceAdd, Int.reduceMul, Int.reduceSub, Int.reduceNeg, Int.reduceToNat]
            have hna3 : sm3.n ≤ ((sm3.set sm3.n (.raw (.cells #[.slice none 0 0, .int .i64 0, .int .i64 0] 44 (0, 0)))).up (sm3.n + 1)).n := by simp only [St.up_n]; omega
            have htna3 : σ.n ≤ sm3.n := (Nat.le_trans (Nat.le_trans (Nat.le_trans hW11.n hnm1) hnm2) hnm3)
            generalize ((sm3.set sm3.n (.raw (.cells #[.slice none 0 0, .int .i64 0, .int .i64 0] 44 (0, 0)))).up (sm3.n + 1)) = sa3 at hIa3 hwa3 hka3 hta3 hna3 ⊢
            generalize sm3.n = tb at hIa3 hta3 htna3 ⊢
            have q6 : sa3.m bc = _ := (LgI.at hIa3 (hbc u1))
            try simp -implicitDefEqProofs (disch := first | omega | (simp only [St.set_n, St.up_n, List.length_cons, List.length_nil]; omega)) only [go_sem, Nat.reduceAdd, Nat.reduceMul, Nat.reduceSub, Int.reduceAdd, Int.reduceMul, Int.reduceSub, Int.reduceNeg, Int.reduceToNat, f7, f8, f9, q6]
            have q6 : sa3.m bc = _ := (LgI.at hIa3 (hbc u1))
            try simp -implicitDefEqProofs (disch := first | omega | (simp only [St.set_n, St.up_n, List.length_cons, List.length_nil]; omega)) only [go_sem, Nat.reduceAdd, Nat.reduceMul, Nat.reduceSub, Int.reduceAdd, Int.reduceMul, Int.reduceSub, Int.reduceNeg, Int.reduceToNat, f7, f8, f9, q6]
            refine callF_of (LgI.call hIa3 hwa3 (fun G' K' hE hK' => cas_of (L := oL (B := B) (onH bgot bset cb b I)) (t := 3) (n := 0) (a := .ef 2) (r := []) (ok := fun u => decide (u.c.1 = 7)) (φ := casW (onC hd) 7 7) (ψ := fun _ u => (u, [])) ⟨_, rfl⟩ (cas_ok (onC hd) 7 7) (.inl ⟨rfl, fun _ u => rfl⟩) (fun u => ⟨rfl, rfl, rfl⟩) hE hK') fun v3 sa34 hIa34 hka34 hna34 hwa34 hv3 => ?_)
            simp only [List.cons_append, List.nil_append] at hIa34
            have q6 : sa34.m bc = _ := (LgI.at hIa34 (hbc _))
            simp -implicitDefEqProofs (disch := first | omega | (simp only [St.set_n, St.up_n, List.length_cons, List.length_nil]; omega)) only [go_sem, Nat.reduceAdd, Nat.reduceMul, Nat.reduceSub, Int.reduceAdd, Int.reduceMul, Int.reduceSub, Int.reduceNeg, Int.reduceToNat, f7, f8, f9, q6]
            have q6 : sa34.m bc = _ := (LgI.at hIa34 (hbc _))
            try simp -implicitDefEqProofs (disch := first | omega | (simp only [St.set_n, St.up_n, List.length_cons, List.length_nil]; omega)) only [go_sem, Nat.reduceAdd, Nat.reduceMul, Nat.reduceSub, Int.reduceAdd, Int.reduceMul, Int.reduceSub, Int.reduceNeg, Int.reduceToNat, f7, f8, f9, q6]
            refine bslK_ones (vs := [v0, v1, v2, v3]) se28 zr34 rfl (four_one hv0 hv1 hv2 hv3) rfl rfl (by omega) ?_
            have hka35 : ∀ c y, sa34.m c = some y → ((sa34.set sa34.n (.raw (.cells [v0, v1, v2, v3].toArray 34 (0, 0)))).up (sa34.n + 1)).m c = some y := fun c y hx => by
              have := (hwa34.2 _ _ hx).2
              simp -implicitDefEqProofs (disch := first | omega | (simp only [St.set_n, St.up_n, List.length_cons, List.length_nil]; omega)) only [go_sem, Nat.reduceAdd, Nat.reduceMul, Nat.reduceSub, Int.reduceAdd, Int.reduceMul, Int.reduceSub, Int.reduceNeg, Int.reduceToNat, hx]
            have hwa35 := set_wf1 (y := (.raw (.cells [v0, v1, v2, v3].toArray 34 (0, 0)))) hwa34
            have hma35 : ((sa34.set sa34.n (.raw (.cells [v0, v1, v2, v3].toArray 34 (0, 0)))).up (sa34.n + 1)).m sa34.n = some (.raw (.cells [v0, v1, v2, v3].toArray 34 (0, 0))) := by simp -implicitDefEqProofs (disch := first | omega | (simp only [St.set_n, St.up_n, List.length_cons, List.length_nil]; omega)) only [go_sem, Nat.reduceAdd, Nat.reduceMul, Nat.reduceSub, Int.reduceAdd, Int.reduceMul, Int.reduceSub, Int.reduceNeg, Int.reduceToNat]
            have hna35 : sa34.n ≤ ((sa34.set sa34.n (.raw (.cells [v0, v1, v2, v3].toArray 34 (0, 0)))).up (sa34.n + 1)).n := by simp only [St.up_n]; omega
            generalize ((sa34.set sa34.n (.raw (.cells [v0, v1, v2, v3].toArray 34 (0, 0)))).up (sa34.n + 1)) = sa35 at hka35 hwa35 hma35 hna35 ⊢
            have hIa35 := LgI.keep hIa34 hka35 hna35
            have q6 : sa35.m bc = _ := (LgI.at hIa35 (hbc _))
            simp -implicitDefEqProofs (disch := first | omega | (simp only [St.set_n, St.up_n, List.length_cons, List.length_nil]; omega)) only [go_sem, Nat.reduceAdd, Nat.reduceMul, Nat.reduceSub, Int.reduceAdd, Int.reduceMul, Int.reduceSub, Int.reduceNeg, Int.reduceToNat, f7, f8, f9, q6]
            have q6 : sa35.m bc = _ := (LgI.at hIa35 (hbc _))
            try simp -implicitDefEqProofs (disch := first | omega | (simp only [St.set_n, St.up_n, List.length_cons, List.length_nil]; omega)) only [go_sem, Nat.reduceAdd, Nat.reduceMul, Nat.reduceSub, Int.reduceAdd, Int.reduceMul, Int.reduceSub, Int.reduceNeg, Int.reduceToNat, f7, f8, f9, q6]
            have hIo := hIa35
            rw [o2_eq] at hIo
            have hsl := hma35
            refine callF_wf (m_run (Y := lgSys (oL (B := B) (onH bgot bset cb b I)) 4) (x0 := o2S os u1) hIo (show (4 : Nat) ≤ 1000 by omega) (by simp) ⟨⟨_, _, rfl⟩, fc_block hsl rfl⟩ (fun s hs => fc_block (by rw [hs _ (hwa35.2 _ _ hsl).2]; exact hsl) rfl) slR_nil hR2 fun mv vs' sR om hIR hnR hkR hwR => ?_)
            rw [t1]
            obtain ⟨Am2, cm2, rfl, _⟩ := om.is
            rw [t2]
            have q6 : sR.m bc = _ := (LgI.at (H := onH bgot bset cb b I) hIR (hbc _))
            have htR := hkR _ _ (.inr rfl) (hka35 _ _ (hka34 _ _ (.inr rfl) hta3))
            simp -implicitDefEqProofs (disch := first | omega | (simp only [St.set_n, St.up_n, List.length_cons, List.length_nil]; omega)) only [go_sem, Nat.reduceAdd, Nat.reduceMul, Nat.reduceSub, Int.reduceAdd, Int.reduceMul, Int.reduceSub, Int.reduceNeg, Int.reduceToNat, f7, f8, f9, q6, htR]
            exact ⟨_, To.refl _ _, ⟨by simp -implicitDefEqProofs (disch := first | omega | (simp only [St.set_n, St.up_n, List.length_cons, List.length_nil]; omega)) only [go_sem, Nat.reduceAdd, Nat.reduceMul, Nat.reduceSub, Int.reduceAdd, Int.reduceMul, Int.reduceSub, Int.reduceNeg, Int.reduceToNat, f7], by simp -implicitDefEqProofs (disch := first | omega | (simp only [St.set_n, St.up_n, List.length_cons, List.length_nil]; omega)) only [go_sem, Nat.reduceAdd, Nat.reduceMul, Nat.reduceSub, Int.reduceAdd, Int.reduceMul, Int.reduceSub, Int.reduceNeg, Int.reduceToNat, f8], by simp -implicitDefEqProofs (disch := first | omega | (simp only [St.set_n, St.up_n, List.length_cons, List.length_nil]; omega)) only [go_sem, Nat.reduceAdd, Nat.reduceMul, Nat.reduceSub, Int.reduceAdd, Int.reduceMul, Int.reduceSub, Int.reduceNeg, Int.reduceToNat, f9], by simp -implicitDefEqProofs (disch := first | omega | (simp only [St.set_n, St.up_n, List.length_cons, List.length_nil]; omega)) only [go_sem, Nat.reduceAdd, Nat.reduceMul, Nat.reduceSub, Int.reduceAdd, Int.reduceMul, Int.reduceSub, Int.reduceNeg, Int.reduceToNat, fd]⟩, ⟨tb, Am2, cm2, R2.1.ca, R2.1.x.1, by simp -implicitDefEqProofs (disch := first | omega | (simp only [St.set_n, St.up_n, List.length_cons, List.length_nil]; omega)) only [go_sem, Nat.reduceAdd, Nat.reduceMul, Nat.reduceSub, Int.reduceAdd, Int.reduceMul, Int.reduceSub, Int.reduceNeg, Int.reduceToNat], by simp -implicitDefEqProofs (disch := first | omega | (simp only [St.set_n, St.up_n, List.length_cons, List.length_nil]; omega)) only [go_sem, Nat.reduceAdd, Nat.reduceMul, Nat.reduceSub, Int.reduceAdd, Int.reduceMul, Int.reduceSub, Int.reduceNeg, Int.reduceToNat], LgI.owE hIR (fun c y hx => hkR c y (.inl (hwf.2 _ _ hx).2) ((fun c y hx => hka35 c y ((fun c y hx => hka34 c y (.inl (hwf.2 _ _ hx).2) ((fun c y hx => hka3 c y ((fun c y hx => hkm3 c y (hwf.2 _ _ hx).2 ((fun c y hx => hkm2 c y (hwf.2 _ _ hx).2 ((fun c y hx => hkm1 c y (hwf.2 _ _ hx).2 (hW11.old c y hx)) c y hx)) c y hx)) c y hx)) c y hx)) c y hx)) c y hx)) (Nat.le_trans (Nat.le_trans (Nat.le_trans (Nat.le_trans (Nat.le_trans (Nat.le_trans (Nat.le_trans hW11.n hnm1) hnm2) hnm3) hna3) hna34) hna35) hnR) htna3 hwf _, t3⟩⟩
        · skip
          have q6 : sm2.m bc = _ := (LgI.at hIm2 (hbc _))
          have q6n := (hwm2.2 _ _ q6).2
          try simp -implicitDefEqProofs (disch := first | omega | (simp only [St.set_n, St.up_n, List.length_cons, List.length_nil]; omega)) only [go_sem, Nat.reduceAdd, Nat.reduceMul, Nat.reduceSub, Int.reduceAdd, Int.reduceMul, Int.reduceSub, Int.reduceNeg, Int.reduceToNat, f7, f8, f9, q6, q6n]
          have hIa2 := LgI.alloc hIm2 hwm2 (.raw (.cells #[.slice none 0 0, .int .i64 0, .int .i64 0] 44 (0, 0)))
          have hwa2 := set_wf1 (y := (.raw (.cells #[.slice none 0 0, .int .i64 0, .int .i64 0] 44 (0, 0)))) hwm2
          have hka2 : ∀ c y, sm2.m c = some y → ((sm2.set sm2.n (.raw (.cells #[.slice none 0 0, .int .i64 0, .int .i64 0] 44 (0, 0)))).up (sm2.n + 1)).m c = some y := fun c y hx => by
            have := (hwm2.2 _ _ hx).2
            simp -implicitDefEqProofs (disch := first | omega | (simp only [St.set_n, St.up_n, List.length_cons, List.length_nil]; omega)) only [go_sem, Nat.reduceAdd, Nat.reduceMul, Nat.reduceSub, Int.reduceAdd, Int.reduceMul, Int.reduceSub, Int.reduceNeg, Int.reduceToNat, hx]
          have hta2 : ((sm2.set sm2.n (.raw (.cells #[.slice none 0 0, .int .i64 0, .int .i64 0] 44 (0, 0)))).up (sm2.n + 1)).m sm2.n = some (.raw (.cells #[.slice none 0 0, .int .i64 0, .int .i64 0] 44 (0, 0))) := by simp -implicitDefEqProofs (disch := first | omega | (simp only [St.set_n, St.up_n, List.length_cons, List.length_nil]; omega)) only [go_sem, Nat.reduceAdd, Nat.reduceMul, Nat.reduceSub, Int.reduceAdd, Int.reduceMul, Int.reduceSub, Int.reduceNeg, Int.reduceToNat]
          have hna2 : sm2.n ≤ ((sm2.set sm2.n (.raw (.cells #[.slice none 0 0, .int .i64 0, .int .i64 0] 44 (0, 0)))).up (sm2.n + 1)).n := by simp only [St.up_n]; omega
          have htna2 : σ.n ≤ sm2.n := (Nat.le_trans (Nat.le_trans hW11.n hnm1) hnm2)
          generalize ((sm2.set sm2.n (.raw (.cells #[.slice none 0 0, .int .i64 0, .int .i64 0] 44 (0, 0)))).up (sm2.n + 1)) = sa2 at hIa2 hwa2 hka2 hta2 hna2 ⊢
          generalize sm2.n = tb at hIa2 hta2 htna2 ⊢
          have q6 : sa2.m bc = _ := (LgI.at hIa2 (hbc u1))
          try simp -implicitDefEqProofs (disch := first | omega | (simp only [St.set_n, St.up_n, List.length_cons, List.length_nil]; omega)) only [go_sem, Nat.reduceAdd, Nat.reduceMul, Nat.reduceSub, Int.reduceAdd, Int.reduceMul, Int.reduceSub, Int.reduceNeg, Int.reduceToNat, f7, f8, f9, q6]
          have q6 : sa2.m bc = _ := (LgI.at hIa2 (hbc u1))
          try simp -implicitDefEqProofs (disch := first | omega | (simp only [St.set_n, St.up_n, List.length_cons, List.length_nil]; omega)) only [go_sem, Nat.reduceAdd, Nat.reduceMul, Nat.reduceSub, Int.reduceAdd, Int.reduceMul, Int.reduceSub, Int.reduceNeg, Int.reduceToNat, f7, f8, f9, q6]
          refine callF_of (LgI.call hIa2 hwa2 (fun G' K' hE hK' => load_of (L := oL (B := B) (onH bgot bset cb b I)) (t := 2) (n := 0) (a := .ef 1) (r := []) (val := fun u => u.c.1) (φ := loadW (onC hd)) (ψ := fun _ u => (u, [])) ⟨_, rfl⟩ (load_ok (onC hd)) (.inl ⟨rfl, fun _ u => rfl⟩) (fun u => ⟨rfl, rfl, rfl⟩) hE hK') fun v2 sa23 hIa23 hka23 hna23 hwa23 hv2 => ?_)
          simp only [List.cons_append, List.nil_append] at hIa23
          have q6 : sa23.m bc = _ := (LgI.at hIa23 (hbc _))
          simp -implicitDefEqProofs (disch := first | omega | (simp only [St.set_n, St.up_n, List.length_cons, List.length_nil]; omega)) only [go_sem, Nat.reduceAdd, Nat.reduceMul, Nat.reduceSub, Int.reduceAdd, Int.reduceMul, Int.reduceSub, Int.reduceNeg, Int.reduceToNat, f7, f8, f9, q6]
          have q6 : sa23.m bc = _ := (LgI.at hIa23 (hbc _))
          try simp -implicitDefEqProofs (disch := first | omega | (simp only [St.set_n, St.up_n, List.length_cons, List.length_nil]; omega)) only [go_sem, Nat.reduceAdd, Nat.reduceMul, Nat.reduceSub, Int.reduceAdd, Int.reduceMul, Int.reduceSub, Int.reduceNeg, Int.reduceToNat, f7, f8, f9, q6]
          refine callF_of (LgI.call hIa23 hwa23 (fun G' K' hE hK' => cas_of (L := oL (B := B) (onH bgot bset cb b I)) (t := 3) (n := 0) (a := .ef 2) (r := []) (ok := fun u => decide (u.c.1 = 7)) (φ := casW (onC hd) 7 7) (ψ := fun _ u => (u, [])) ⟨_, rfl⟩ (cas_ok (onC hd) 7 7) (.inl ⟨rfl, fun _ u => rfl⟩) (fun u => ⟨rfl, rfl, rfl⟩) hE hK') fun v3 sa24 hIa24 hka24 hna24 hwa24 hv3 => ?_)
          simp only [List.cons_append, List.nil_append] at hIa24
          have q6 : sa24.m bc = _ := (LgI.at hIa24 (hbc _))
          simp -implicitDefEqProofs (disch := first | omega | (simp only [St.set_n, St.up_n, List.length_cons, List.length_nil]; omega)) only [go_sem, Nat.reduceAdd, Nat.reduceMul, Nat.reduceSub, Int.reduceAdd, Int.reduceMul, Int.reduceSub, Int.reduceNeg, Int.reduceToNat, f7, f8, f9, q6]
          have q6 : sa24.m bc = _ := (LgI.at hIa24 (hbc _))
          try simp -implicitDefEqProofs (disch := first | omega | (simp only [St.set_n, St.up_n, List.length_cons, List.length_nil]; omega)) only [go_sem, Nat.reduceAdd, Nat.reduceMul, Nat.reduceSub, Int.reduceAdd, Int.reduceMul, Int.reduceSub, Int.reduceNeg, Int.reduceToNat, f7, f8, f9, q6]
          refine bslK_ones (vs := [v0, v1, v2, v3]) se28 zr34 rfl (four_one hv0 hv1 hv2 hv3) rfl rfl (by omega) ?_
          have hka25 : ∀ c y, sa24.m c = some y → ((sa24.set sa24.n (.raw (.cells [v0, v1, v2, v3].toArray 34 (0, 0)))).up (sa24.n + 1)).m c = some y := fun c y hx => by
            have := (hwa24.2 _ _ hx).2
            simp -implicitDefEqProofs (disch := first | omega | (simp only [St.set_n, St.up_n, List.length_cons, List.length_nil]; omega)) only [go_sem, Nat.reduceAdd, Nat.reduceMul, Nat.reduceSub, Int.reduceAdd, Int.reduceMul, Int.reduceSub, Int.reduceNeg, Int.reduceToNat, hx]
          have hwa25 := set_wf1 (y := (.raw (.cells [v0, v1, v2, v3].toArray 34 (0, 0)))) hwa24
          have hma25 : ((sa24.set sa24.n (.raw (.cells [v0, v1, v2, v3].toArray 34 (0, 0)))).up (sa24.n + 1)).m sa24.n = some (.raw (.cells [v0, v1, v2, v3].toArray 34 (0, 0))) := by simp -implicitDefEqProofs (disch := first | omega | (simp only [St.set_n, St.up_n, List.length_cons, List.length_nil]; omega)) only [go_sem, Nat.reduceAdd, Nat.reduceMul, Nat.reduceSub, Int.reduceAdd, Int.reduceMul, Int.reduceSub, Int.reduceNeg, Int.reduceToNat]
          have hna25 : sa24.n ≤ ((sa24.set sa24.n (.raw (.cells [v0, v1, v2, v3].toArray 34 (0, 0)))).up (sa24.n + 1)).n := by simp only [St.up_n]; omega
          generalize ((sa24.set sa24.n (.raw (.cells [v0, v1, v2, v3].toArray 34 (0, 0)))).up (sa24.n + 1)) = sa25 at hka25 hwa25 hma25 hna25 ⊢
          have hIa25 := LgI.keep hIa24 hka25 hna25
          have q6 : sa25.m bc = _ := (LgI.at hIa25 (hbc _))
          simp -implicitDefEqProofs (disch := first | omega | (simp only [St.set_n, St.up_n, List.length_cons, List.length_nil]; omega)) only [go_sem, Nat.reduceAdd, Nat.reduceMul, Nat.reduceSub, Int.reduceAdd, Int.reduceMul, Int.reduceSub, Int.reduceNeg, Int.reduceToNat, f7, f8, f9, q6]
          have q6 : sa25.m bc = _ := (LgI.at hIa25 (hbc _))
          try simp -implicitDefEqProofs (disch := first | omega | (simp only [St.set_n, St.up_n, List.length_cons, List.length_nil]; omega)) only [go_sem, Nat.reduceAdd, Nat.reduceMul, Nat.reduceSub, Int.reduceAdd, Int.reduceMul, Int.reduceSub, Int.reduceNeg, Int.reduceToNat, f7, f8, f9, q6]
          have hIo := hIa25
          rw [o2_eq] at hIo
          have hsl := hma25
          refine callF_wf (m_run (Y := lgSys (oL (B := B) (onH bgot bset cb b I)) 4) (x0 := o2S os u1) hIo (show (4 : Nat) ≤ 1000 by omega) (by simp) ⟨⟨_, _, rfl⟩, fc_block hsl rfl⟩ (fun s hs => fc_block (by rw [hs _ (hwa25.2 _ _ hsl).2]; exact hsl) rfl) slR_nil hR2 fun mv vs' sR om hIR hnR hkR hwR => ?_)
          rw [t1]
          obtain ⟨Am2, cm2, rfl, _⟩ := om.is
          rw [t2]
          have q6 : sR.m bc = _ := (LgI.at (H := onH bgot bset cb b I) hIR (hbc _))
          have htR := hkR _ _ (.inr rfl) (hka25 _ _ (hka24 _ _ (.inr rfl) (hka23 _ _ (.inr rfl) hta2)))
          simp -implicitDefEqProofs (disch := first | omega | (simp only [St.set_n, St.up_n, List.length_cons, List.length_nil]; omega)) only [go_sem, Nat.reduceAdd, Nat.reduceMul, Nat.reduceSub, Int.reduceAdd, Int.reduceMul, Int.reduceSub, Int.reduceNeg, Int.reduceToNat, f7, f8, f9, q6, htR]
          exact ⟨_, To.refl _ _, ⟨by simp -implicitDefEqProofs (disch := first | omega | (simp only [St.set_n, St.up_n, List.length_cons, List.length_nil]; omega)) only [go_sem, Nat.reduceAdd, Nat.reduceMul, Nat.reduceSub, Int.reduceAdd, Int.reduceMul, Int.reduceSub, Int.reduceNeg, Int.reduceToNat, f7], by simp -implicitDefEqProofs (disch := first | omega | (simp only [St.set_n, St.up_n, List.length_cons, List.length_nil]; omega)) only [go_sem, Nat.reduceAdd, Nat.reduceMul, Nat.reduceSub, Int.reduceAdd, Int.reduceMul, Int.reduceSub, Int.reduceNeg, Int.reduceToNat, f8], by simp -implicitDefEqProofs (disch := first | omega | (simp only [St.set_n, St.up_n, List.length_cons, List.length_nil]; omega)) only [go_sem, Nat.reduceAdd, Nat.reduceMul, Nat.reduceSub, Int.reduceAdd, Int.reduceMul, Int.reduceSub, Int.reduceNeg, Int.reduceToNat, f9], by simp -implicitDefEqProofs (disch := first | omega | (simp only [St.set_n, St.up_n, List.length_cons, List.length_nil]; omega)) only [go_sem, Nat.reduceAdd, Nat.reduceMul, Nat.reduceSub, Int.reduceAdd, Int.reduceMul, Int.reduceSub, Int.reduceNeg, Int.reduceToNat, fd]⟩, ⟨tb, Am2, cm2, R2.1.ca, R2.1.x.1, by simp -implicitDefEqProofs (disch := first | omega | (simp only [St.set_n, St.up_n, List.length_cons, List.length_nil]; omega)) only [go_sem, Nat.reduceAdd, Nat.reduceMul, Nat.reduceSub, Int.reduceAdd, Int.reduceMul, Int.reduceSub, Int.reduceNeg, Int.reduceToNat], by simp -implicitDefEqProofs (disch := first | omega | (simp only [St.set_n, St.up_n, List.length_cons, List.length_nil]; omega)) only [go_sem, Nat.reduceAdd, Nat.reduceMul, Nat.reduceSub, Int.reduceAdd, Int.reduceMul, Int.reduceSub, Int.reduceNeg, Int.reduceToNat], LgI.owE hIR (fun c y hx => hkR c y (.inl (hwf.2 _ _ hx).2) ((fun c y hx => hka25 c y ((fun c y hx => hka24 c y (.inl (hwf.2 _ _ hx).2) ((fun c y hx => hka23 c y (.inl (hwf.2 _ _ hx).2) ((fun c y hx => hka2 c y ((fun c y hx => hkm2 c y (hwf.2 _ _ hx).2 ((fun c y hx => hkm1 c y (hwf.2 _ _ hx).2 (hW11.old c y hx)) c y hx)) c y hx)) c y hx)) c y hx)) c y hx)) c y hx)) (Nat.le_trans (Nat.le_trans (Nat.le_trans (Nat.le_trans (Nat.le_trans (Nat.le_trans (Nat.le_trans hW11.n hnm1) hnm2) hna2) hna23) hna24) hna25) hnR) htna2 hwf _, t3⟩⟩
      · skip
        have q6 : sm1.m bc = _ := (LgI.at hIm1 (hbc _))
        have q6n := (hwm1.2 _ _ q6).2
        try simp -implicitDefEqProofs (disch := first | omega | (simp only [St.set_n, St.up_n, List.length_cons, List.length_nil]; omega)) only [go_sem, Nat.reduceAdd, Nat.reduceMul, Nat.reduceSub, Int.reduceAdd, Int.reduceMul, Int.reduceSub, Int.reduceNeg, Int.reduceToNat, f7, f8, f9, q6, q6n]
        have hIa1 := LgI.alloc hIm1 hwm1 (.raw (.cells #[.slice none 0 0, .int .i64 0, .int .i64 0] 44 (0, 0)))
        have hwa1 := set_wf1 (y := (.raw (.cells #[.slice none 0 0, .int .i64 0, .int .i64 0] 44 (0, 0)))) hwm1
        have hka1 : ∀ c y, sm1.m c = some y → ((sm1.set sm1.n (.raw (.cells #[.slice none 0 0, .int .i64 0, .int .i64 0] 44 (0, 0)))).up (sm1.n + 1)).m c = some y := fun c y hx => by
          have := (hwm1.2 _ _ hx).2
          simp -implicitDefEqProofs (disch := first | omega | (simp only [St.set_n, St.up_n, List.length_cons, List.length_nil]; omega)) only [go_sem, Nat.reduceAdd, Nat.reduceMul, Nat.reduceSub, Int.reduceAdd, Int.reduceMul, Int.reduceSub, Int.reduceNeg, Int.reduceToNat, hx]
        have hta1 : ((sm1.set sm1.n (.raw (.cells #[.slice none 0 0, .int .i64 0, .int .i64 0] 44 (0, 0)))).up (sm1.n + 1)).m sm1.n = some (.raw (.cells #[.slice none 0 0, .int .i64 0, .int .i64 0] 44 (0, 0))) := by simp -implicitDefEqProofs (disch := first | omega | (simp only [St.set_n, St.up_n, List.length_cons, List.length_nil]; omega)) only [go_sem, Nat.reduceAdd, Nat.reduceMul, Nat.reduceSub, Int.reduceAdd, Int.reduceMul, Int.reduceSub, Int.reduceNeg, Int.reduceToNat]
        have hna1 : sm1.n ≤ ((sm1.set sm1.n (.raw (.cells #[.slice none 0 0, .int .i64 0, .int .i64 0] 44 (0, 0)))).up (sm1.n + 1)).n := by simp only [St.up_n]; omega
        have htna1 : σ.n ≤ sm1.n := (Nat.le_trans hW11.n hnm1)
        generalize ((sm1.set sm1.n (.raw (.cells #[.slice none 0 0, .int .i64 0, .int .i64 0] 44 (0, 0)))).up (sm1.n + 1)) = sa1 at hIa1 hwa1 hka1 hta1 hna1 ⊢
        generalize sm1.n = tb at hIa1 hta1 htna1 ⊢
        have q6 : sa1.m bc = _ := (LgI.at hIa1 (hbc u1))
        try simp -implicitDefEqProofs (disch := first | omega | (simp only [St.set_n, St.up_n, List.length_cons, List.length_nil]; omega)) only [go_sem, Nat.reduceAdd, Nat.reduceMul, Nat.reduceSub, Int.reduceAdd, Int.reduceMul, Int.reduceSub, Int.reduceNeg, Int.reduceToNat, f7, f8, f9, q6]
        have q6 : sa1.m bc = _ := (LgI.at hIa1 (hbc u1))
        try simp -implicitDefEqProofs (disch := first | omega | (simp only [St.set_n, St.up_n, List.length_cons, List.length_nil]; omega)) only [go_sem, Nat.reduceAdd, Nat.reduceMul, Nat.reduceSub, Int.reduceAdd, Int.reduceMul, Int.reduceSub, Int.reduceNeg, Int.reduceToNat, f7, f8, f9, q6]
        refine callF_of (LgI.call hIa1 hwa1 (fun G' K' hE hK' => do_of (L := oL (B := B) (onH bgot bset cb b I)) (t := 1) (n := 0) (a := .ef 0) (r := []) (φ := fun u => u) (η := fun _ => _) (ψ := fun _ u => (u, [])) (.inl ⟨rfl, fun u => ⟨rfl, rfl⟩⟩) (fun _ _ h => h) (fun _ => .inl ⟨rfl, fun u => rfl⟩) (fun u => ⟨rfl, rfl, rfl⟩) hE hK') fun v1 sa12 hIa12 hka12 hna12 hwa12 hv1 => ?_)
        simp only [List.cons_append, List.nil_append] at hIa12
        have q6 : sa12.m bc = _ := (LgI.at hIa12 (hbc _))
        simp -implicitDefEqProofs (disch := first | omega | (simp only [St.set_n, St.up_n, List.length_cons, List.length_nil]; omega)) only [go_sem, Nat.reduceAdd, Nat.reduceMul, Nat.reduceSub, Int.reduceAdd, Int.reduceMul, Int.reduceSub, Int.reduceNeg, Int.reduceToNat, f7, f8, f9, q6]
        have q6 : sa12.m bc = _ := (LgI.at hIa12 (hbc _))
        try simp -implicitDefEqProofs (disch := first | omega | (simp only [St.set_n, St.up_n, List.length_cons, List.length_nil]; omega)) only [go_sem, Nat.reduceAdd, Nat.reduceMul, Nat.reduceSub, Int.reduceAdd, Int.reduceMul, Int.reduceSub, Int.reduceNeg, Int.reduceToNat, f7, f8, f9, q6]
        refine callF_of (LgI.call hIa12 hwa12 (fun G' K' hE hK' => load_of (L := oL (B := B) (onH bgot bset cb b I)) (t := 2) (n := 0) (a := .ef 1) (r := []) (val := fun u => u.c.1) (φ := loadW (onC hd)) (ψ := fun _ u => (u, [])) ⟨_, rfl⟩ (load_ok (onC hd)) (.inl ⟨rfl, fun _ u => rfl⟩) (fun u => ⟨rfl, rfl, rfl⟩) hE hK') fun v2 sa13 hIa13 hka13 hna13 hwa13 hv2 => ?_)
        simp only [List.cons_append, List.nil_append] at hIa13
        have q6 : sa13.m bc = _ := (LgI.at hIa13 (hbc _))
        simp -implicitDefEqProofs (disch := first | omega | (simp only [St.set_n, St.up_n, List.length_cons, List.length_nil]; omega)) only [go_sem, Nat.reduceAdd, Nat.reduceMul, Nat.reduceSub, Int.reduceAdd, Int.reduceMul, Int.reduceSub, Int.reduceNeg, Int.reduceToNat, f7, f8, f9, q6]
        have q6 : sa13.m bc = _ := (LgI.at hIa13 (hbc _))
        try simp -implicitDefEqProofs (disch := first | omega | (simp only [St.set_n, St.up_n, List.length_cons, List.length_nil]; omega)) only [go_sem, Nat.reduceAdd, Nat.reduceMul, Nat.reduceSub, Int.reduceAdd, Int.reduceMul, Int.reduceSub, Int.reduceNeg, Int.reduceToNat, f7, f8, f9, q6]
        refine callF_of (LgI.call hIa13 hwa13 (fun G' K' hE hK' => cas_of (L := oL (B := B) (onH bgot bset cb b I)) (t := 3) (n := 0) (a := .ef 2) (r := []) (ok := fun u => decide (u.c.1 = 7)) (φ := casW (onC hd) 7 7) (ψ := fun _ u => (u, [])) ⟨_, rfl⟩ (cas_ok (onC hd) 7 7) (.inl ⟨rfl, fun _ u => rfl⟩) (fun u => ⟨rfl, rfl, rfl⟩) hE hK') fun v3 sa14 hIa14 hka14 hna14 hwa14 hv3 => ?_)
        simp only [List.cons_append, List.nil_append] at hIa14
        have q6 : sa14.m bc = _ := (LgI.at hIa14 (hbc _))
        simp -implicitDefEqProofs (disch := first | omega | (simp only [St.set_n, St.up_n, List.length_cons, List.length_nil]; omega)) only [go_sem, Nat.reduceAdd, Nat.reduceMul, Nat.reduceSub, Int.reduceAdd, Int.reduceMul, Int.reduceSub, Int.reduceNeg, Int.reduceToNat, f7, f8, f9, q6]
        have q6 : sa14.m bc = _ := (LgI.at hIa14 (hbc _))
        try simp -implicitDefEqProofs (disch := first | omega | (simp only [St.set_n, St.up_n, List.length_cons, List.length_nil]; omega)) only [go_sem, Nat.reduceAdd, Nat.reduceMul, Nat.reduceSub, Int.reduceAdd, Int.reduceMul, Int.reduceSub, Int.reduceNeg, Int.reduceToNat, f7, f8, f9, q6]
        refine bslK_ones (vs := [v0, v1, v2, v3]) se28 zr34 rfl (four_one hv0 hv1 hv2 hv3) rfl rfl (by omega) ?_
        have hka15 : ∀ c y, sa14.m c = some y → ((sa14.set sa14.n (.raw (.cells [v0, v1, v2, v3].toArray 34 (0, 0)))).up (sa14.n + 1)).m c = some y := fun c y hx => by
          have := (hwa14.2 _ _ hx).2
          simp -implicitDefEqProofs (disch := first | omega | (simp only [St.set_n, St.up_n, List.length_cons, List.length_nil]; omega)) only [go_sem, Nat.reduceAdd, Nat.reduceMul, Nat.reduceSub, Int.reduceAdd, Int.reduceMul, Int.reduceSub, Int.reduceNeg, Int.reduceToNat, hx]
        have hwa15 := set_wf1 (y := (.raw (.cells [v0, v1, v2, v3].toArray 34 (0, 0)))) hwa14
        have hma15 : ((sa14.set sa14.n (.raw (.cells [v0, v1, v2, v3].toArray 34 (0, 0)))).up (sa14.n + 1)).m sa14.n = some (.raw (.cells [v0, v1, v2, v3].toArray 34 (0, 0))) := by simp -implicitDefEqProofs (disch := first | omega | (simp only [St.set_n, St.up_n, List.length_cons, List.length_nil]; omega)) only [go_sem, Nat.reduceAdd, Nat.reduceMul, Nat.reduceSub, Int.reduceAdd, Int.reduceMul, Int.reduceSub, Int.reduceNeg, Int.reduceToNat]
        have hna15 : sa14.n ≤ ((sa14.set sa14.n (.raw (.cells [v0, v1, v2, v3].toArray 34 (0, 0)))).up (sa14.n + 1)).n := by simp only [St.up_n]; omega
        generalize ((sa14.set sa14.n (.raw (.cells [v0, v1, v2, v3].toArray 34 (0, 0)))).up (sa14.n + 1)) = sa15 at hka15 hwa15 hma15 hna15 ⊢
        have hIa15 := LgI.keep hIa14 hka15 hna15
        have q6 : sa15.m bc = _ := (LgI.at hIa15 (hbc _))
        simp -implicitDefEqProofs (disch := first | omega | (simp only [St.set_n, St.up_n, List.length_cons, List.length_nil]; omega)) only [go_sem, Nat.reduceAdd, Nat.reduceMul, Nat.reduceSub, Int.reduceAdd, Int.reduceMul, Int.reduceSub, Int.reduceNeg, Int.reduceToNat, f7, f8, f9, q6]
        have q6 : sa15.m bc = _ := (LgI.at hIa15 (hbc _))
        try simp -implicitDefEqProofs (disch := first | omega | (simp only [St.set_n, St.up_n, List.length_cons, List.length_nil]; omega)) only [go_sem, Nat.reduceAdd, Nat.reduceMul, Nat.reduceSub, Int.reduceAdd, Int.reduceMul, Int.reduceSub, Int.reduceNeg, Int.reduceToNat, f7, f8, f9, q6]
        have hIo := hIa15
        rw [o2_eq] at hIo
        have hsl := hma15
        refine callF_wf (m_run (Y := lgSys (oL (B := B) (onH bgot bset cb b I)) 4) (x0 := o2S os u1) hIo (show (4 : Nat) ≤ 1000 by omega) (by simp) ⟨⟨_, _, rfl⟩, fc_block hsl rfl⟩ (fun s hs => fc_block (by rw [hs _ (hwa15.2 _ _ hsl).2]; exact hsl) rfl) slR_nil hR2 fun mv vs' sR om hIR hnR hkR hwR => ?_)
        rw [t1]
        obtain ⟨Am2, cm2, rfl, _⟩ := om.is
        rw [t2]
        have q6 : sR.m bc = _ := (LgI.at (H := onH bgot bset cb b I) hIR (hbc _))
        have htR := hkR _ _ (.inr rfl) (hka15 _ _ (hka14 _ _ (.inr rfl) (hka13 _ _ (.inr rfl) (hka12 _ _ (.inr rfl) hta1))))
        simp -implicitDefEqProofs (disch := first | omega | (simp only [St.set_n, St.up_n, List.length_cons, List.length_nil]; omega)) only [go_sem, Nat.reduceAdd, Nat.reduceMul, Nat.reduceSub, Int.reduceAdd, Int.reduceMul, Int.reduceSub, Int.reduceNeg, Int.reduceToNat, f7, f8, f9, q6, htR]
        exact ⟨_, To.refl _ _, ⟨by simp -implicitDefEqProofs (disch := first | omega | (simp only [St.set_n, St.up_n, List.length_cons, List.length_nil]; omega)) only [go_sem, Nat.reduceAdd, Nat.reduceMul, Nat.reduceSub, Int.reduceAdd, Int.reduceMul, Int.reduceSub, Int.reduceNeg, Int.reduceToNat, f7], by simp -implicitDefEqProofs (disch := first | omega | (simp only [St.set_n, St.up_n, List.length_cons, List.length_nil]; omega)) only [go_sem, Nat.reduceAdd, Nat.reduceMul, Nat.reduceSub, Int.reduceAdd, Int.reduceMul, Int.reduceSub, Int.reduceNeg, Int.reduceToNat, f8], by simp -implicitDefEqProofs (disch := first | omega | (simp only [St.set_n, St.up_n, List.length_cons, List.length_nil]; omega)) only [go_sem, Nat.reduceAdd, Nat.reduceMul, Nat.reduceSub, Int.reduceAdd, Int.reduceMul, Int.reduceSub, Int.reduceNeg, Int.reduceToNat, f9], by simp -implicitDefEqProofs (disch := first | omega | (simp only [St.set_n, St.up_n, List.length_cons, List.length_nil]; omega)) only [go_sem, Nat.reduceAdd, Nat.reduceMul, Nat.reduceSub, Int.reduceAdd, Int.reduceMul, Int.reduceSub, Int.reduceNeg, Int.reduceToNat, fd]⟩, ⟨tb, Am2, cm2, R2.1.ca, R2.1.x.1, by simp -implicitDefEqProofs (disch := first | omega | (simp only [St.set_n, St.up_n, List.length_cons, List.length_nil]; omega)) only [go_sem, Nat.reduceAdd, Nat.reduceMul, Nat.reduceSub, Int.reduceAdd, Int.reduceMul, Int.reduceSub, Int.reduceNeg, Int.reduceToNat], by simp -implicitDefEqProofs (disch := first | omega | (simp only [St.set_n, St.up_n, List.length_cons, List.length_nil]; omega)) only [go_sem, Nat.reduceAdd, Nat.reduceMul, Nat.reduceSub, Int.reduceAdd, Int.reduceMul, Int.reduceSub, Int.reduceNeg, Int.reduceToNat], LgI.owE hIR (fun c y hx => hkR c y (.inl (hwf.2 _ _ hx).2) ((fun c y hx => hka15 c y ((fun c y hx => hka14 c y (.inl (hwf.2 _ _ hx).2) ((fun c y hx => hka13 c y (.inl (hwf.2 _ _ hx).2) ((fun c y hx => hka12 c y (.inl (hwf.2 _ _ hx).2) ((fun c y hx => hka1 c y ((fun c y hx => hkm1 c y (hwf.2 _ _ hx).2 (hW11.old c y hx)) c y hx)) c y hx)) c y hx)) c y hx)) c y hx)) c y hx)) (Nat.le_trans (Nat.le_trans (Nat.le_trans (Nat.le_trans (Nat.le_trans (Nat.le_trans (Nat.le_trans hW11.n hnm1) hna1) hna12) hna13) hna14) hna15) hnR) htna1 hwf _, t3⟩⟩
    · skip
      have q6 : s11.m bc = _ := (hW11.w _ _ (hbc u1)).1
      have q6n := (hw11.2 _ _ q6).2
      try simp -implicitDefEqProofs (disch := first | omega | (simp only [St.set_n, St.up_n, List.length_cons, List.length_nil]; omega)) only [go_sem, Nat.reduceAdd, Nat.reduceMul, Nat.reduceSub, Int.reduceAdd, Int.reduceMul, Int.reduceSub, Int.reduceNeg, Int.reduceToNat, f7, f8, f9, q6, q6n]
      have hIa0 := LgI.alloc (hW11.lgi (B := B) (A := Act) (ex := exO)) hw11 (.raw (.cells #[.slice none 0 0, .int .i64 0, .int .i64 0] 44 (0, 0)))
      have hwa0 := set_wf1 (y := (.raw (.cells #[.slice none 0 0, .int .i64 0, .int .i64 0] 44 (0, 0)))) hw11
      have hka0 : ∀ c y, s11.m c = some y → ((s11.set s11.n (.raw (.cells #[.slice none 0 0, .int .i64 0, .int .i64 0] 44 (0, 0)))).up (s11.n + 1)).m c = some y := fun c y hx => by
        have := (hw11.2 _ _ hx).2
        simp -implicitDefEqProofs (disch := first | omega | (simp only [St.set_n, St.up_n, List.length_cons, List.length_nil]; omega)) only [go_sem, Nat.reduceAdd, Nat.reduceMul, Nat.reduceSub, Int.reduceAdd, Int.reduceMul, Int.reduceSub, Int.reduceNeg, Int.reduceToNat, hx]
      have hta0 : ((s11.set s11.n (.raw (.cells #[.slice none 0 0, .int .i64 0, .int .i64 0] 44 (0, 0)))).up (s11.n + 1)).m s11.n = some (.raw (.cells #[.slice none 0 0, .int .i64 0, .int .i64 0] 44 (0, 0))) := by simp -implicitDefEqProofs (disch := first | omega | (simp only [St.set_n, St.up_n, List.length_cons, List.length_nil]; omega)) only [go_sem, Nat.reduceAdd, Nat.reduceMul, Nat.reduceSub, Int.reduceAdd, Int.reduceMul, Int.reduceSub, Int.reduceNeg, Int.reduceToNat]
      have hna0 : s11.n ≤ ((s11.set s11.n (.raw (.cells #[.slice none 0 0, .int .i64 0, .int .i64 0] 44 (0, 0)))).up (s11.n + 1)).n := by simp only [St.up_n]; omega
      have htna0 : σ.n ≤ s11.n := hW11.n
      generalize ((s11.set s11.n (.raw (.cells #[.slice none 0 0, .int .i64 0, .int .i64 0] 44 (0, 0)))).up (s11.n + 1)) = sa0 at hIa0 hwa0 hka0 hta0 hna0 ⊢
      generalize s11.n = tb at hIa0 hta0 htna0 ⊢
      have q6 : sa0.m bc = _ := (LgI.at hIa0 (hbc u1))
      try simp -implicitDefEqProofs (disch := first | omega | (simp only [St.set_n, St.up_n, List.length_cons, List.length_nil]; omega)) only [go_sem, Nat.reduceAdd, Nat.reduceMul, Nat.reduceSub, Int.reduceAdd, Int.reduceMul, Int.reduceSub, Int.reduceNeg, Int.reduceToNat, f7, f8, f9, q6]
      have q6 : sa0.m bc = _ := (LgI.at hIa0 (hbc u1))
      try simp -implicitDefEqProofs (disch := first | omega | (simp only [St.set_n, St.up_n, List.length_cons, List.length_nil]; omega)) only [go_sem, Nat.reduceAdd, Nat.reduceMul, Nat.reduceSub, Int.reduceAdd, Int.reduceMul, Int.reduceSub, Int.reduceNeg, Int.reduceToNat, f7, f8, f9, q6]
      refine callF_of (LgI.call hIa0 hwa0 (fun G' K' hE hK' => free_of (L := oL (B := B) (onH bgot bset cb b I)) (t := 0) (n := 0) (ψs := fun os u => (u, os.map .fr)) (φ := freeW (onL hd) 3) (al := fun os => .fr (os.headD 0)) (rl := fun os => os.tail.map .fr) (lv := lkPtr b 8) ⟨_, rfl⟩ (fun i rest u => rfl) (fun i rest u => ⟨rfl, rfl, rfl⟩) os _ G' _ _ _ _ (fun i _ => at_ok (onL hd) (fun u => hgH u) i) (fun i _ => free_ok (onL hd) 3 i) (hOV _) (.inl ⟨rfl, fun u => rfl⟩) hE hK') fun v0 sa01 hIa01 hka01 hna01 hwa01 hv0 => ?_)
      simp only [List.cons_append, List.nil_append] at hIa01
      have q6 : sa01.m bc = _ := (LgI.at hIa01 (hbc _))
      simp -implicitDefEqProofs (disch := first | omega | (simp only [St.set_n, St.up_n, List.length_cons, List.length_nil]; omega)) only [go_sem, Nat.reduceAdd, Nat.reduceMul, Nat.reduceSub, Int.reduceAdd, Int.reduceMul, Int.reduceSub, Int.reduceNeg, Int.reduceToNat, f7, f8, f9, q6]
      have q6 : sa01.m bc = _ := (LgI.at hIa01 (hbc _))
      try simp -implicitDefEqProofs (disch := first | omega | (simp only [St.set_n, St.up_n, List.length_cons, List.length_nil]; omega)) only [go_sem, Nat.reduceAdd, Nat.reduceMul, Nat.reduceSub, Int.reduceAdd, Int.reduceMul, Int.reduceSub, Int.reduceNeg, Int.reduceToNat, f7, f8, f9, q6]
      refine callF_of (LgI.call hIa01 hwa01 (fun G' K' hE hK' => do_of (L := oL (B := B) (onH bgot bset cb b I)) (t := 1) (n := 0) (a := .ef 0) (r := []) (φ := fun u => u) (η := fun _ => _) (ψ := fun _ u => (u, [])) (.inl ⟨rfl, fun u => ⟨rfl, rfl⟩⟩) (fun _ _ h => h) (fun _ => .inl ⟨rfl, fun u => rfl⟩) (fun u => ⟨rfl, rfl, rfl⟩) hE hK') fun v1 sa02 hIa02 hka02 hna02 hwa02 hv1 => ?_)
      simp only [List.cons_append, List.nil_append] at hIa02
      have q6 : sa02.m bc = _ := (LgI.at hIa02 (hbc _))
      simp -implicitDefEqProofs (disch := first | omega | (simp only [St.set_n, St.up_n, List.length_cons, List.length_nil]; omega)) only [go_sem, Nat.reduceAdd, Nat.reduceMul, Nat.reduceSub, Int.reduceAdd, Int.reduceMul, Int.reduceSub, Int.reduceNeg, Int.reduceToNat, f7, f8, f9, q6]
      have q6 : sa02.m bc = _ := (LgI.at hIa02 (hbc _))
      try simp -implicitDefEqProofs (disch := first | omega | (simp only [St.set_n, St.up_n, List.length_cons, List.length_nil]; omega)) only [go_sem, Nat.reduceAdd, Nat.reduceMul, Nat.reduceSub, Int.reduceAdd, Int.reduceMul, Int.reduceSub, Int.reduceNeg, Int.reduceToNat, f7, f8, f9, q6]
      refine callF_of (LgI.call hIa02 hwa02 (fun G' K' hE hK' => load_of (L := oL (B := B) (onH bgot bset cb b I)) (t := 2) (n := 0) (a := .ef 1) (r := []) (val := fun u => u.c.1) (φ := loadW (onC hd)) (ψ := fun _ u => (u, [])) ⟨_, rfl⟩ (load_ok (onC hd)) (.inl ⟨rfl, fun _ u => rfl⟩) (fun u => ⟨rfl, rfl, rfl⟩) hE hK') fun v2 sa03 hIa03 hka03 hna03 hwa03 hv2 => ?_)
      simp only [List.cons_append, List.nil_append] at hIa03
      have q6 : sa03.m bc = _ := (LgI.at hIa03 (hbc _))
      simp -implicitDefEqProofs (disch := first | omega | (simp only [St.set_n, St.up_n, List.length_cons, List.length_nil]; omega)) only [go_sem, Nat.reduceAdd, Nat.reduceMul, Nat.reduceSub, Int.reduceAdd, Int.reduceMul, Int.reduceSub, Int.reduceNeg, Int.reduceToNat, f7, f8, f9, q6]
      have q6 : sa03.m bc = _ := (LgI.at hIa03 (hbc _))
      try simp -implicitDefEqProofs (disch := first | omega | (simp only [St.set_n, St.up_n, List.length_cons, List.length_nil]; omega)) only [go_sem, Nat.reduceAdd, Nat.reduceMul, Nat.reduceSub, Int.reduceAdd, Int.reduceMul, Int.reduceSub, Int.reduceNeg, Int.reduceToNat, f7, f8, f9, q6]
      refine callF_of (LgI.call hIa03 hwa03 (fun G' K' hE hK' => cas_of (L := oL (B := B) (onH bgot bset cb b I)) (t := 3) (n := 0) (a := .ef 2) (r := []) (ok := fun u => decide (u.c.1 = 7)) (φ := casW (onC hd) 7 7) (ψ := fun _ u => (u, [])) ⟨_, rfl⟩ (cas_ok (onC hd) 7 7) (.inl ⟨rfl, fun _ u => rfl⟩) (fun u => ⟨rfl, rfl, rfl⟩) hE hK') fun v3 sa04 hIa04 hka04 hna04 hwa04 hv3 => ?_)
      simp only [List.cons_append, List.nil_append] at hIa04
      have q6 : sa04.m bc = _ := (LgI.at hIa04 (hbc _))
      simp -implicitDefEqProofs (disch := first | omega | (simp only [St.set_n, St.up_n, List.length_cons, List.length_nil]; omega)) only [go_sem, Nat.reduceAdd, Nat.reduceMul, Nat.reduceSub, Int.reduceAdd, Int.reduceMul, Int.reduceSub, Int.reduceNeg, Int.reduceToNat, f7, f8, f9, q6]
      have q6 : sa04.m bc = _ := (LgI.at hIa04 (hbc _))
      try simp -implicitDefEqProofs (disch := first | omega | (simp only [St.set_n, St.up_n, List.length_cons, List.length_nil]; omega)) only [go_sem, Nat.reduceAdd, Nat.reduceMul, Nat.reduceSub, Int.reduceAdd, Int.reduceMul, Int.reduceSub, Int.reduceNeg, Int.reduceToNat, f7, f8, f9, q6]
      refine bslK_ones (vs := [v0, v1, v2, v3]) se28 zr34 rfl (four_one hv0 hv1 hv2 hv3) rfl rfl (by omega) ?_
      have hka05 : ∀ c y, sa04.m c = some y → ((sa04.set sa04.n (.raw (.cells [v0, v1, v2, v3].toArray 34 (0, 0)))).up (sa04.n + 1)).m c = some y := fun c y hx => by
        have := (hwa04.2 _ _ hx).2
        simp -implicitDefEqProofs (disch := first | omega | (simp only [St.set_n, St.up_n, List.length_cons, List.length_nil]; omega)) only [go_sem, Nat.reduceAdd, Nat.reduceMul, Nat.reduceSub, Int.reduceAdd, Int.reduceMul, Int.reduceSub, Int.reduceNeg, Int.reduceToNat, hx]
      have hwa05 := set_wf1 (y := (.raw (.cells [v0, v1, v2, v3].toArray 34 (0, 0)))) hwa04
      have hma05 : ((sa04.set sa04.n (.raw (.cells [v0, v1, v2, v3].toArray 34 (0, 0)))).up (sa04.n + 1)).m sa04.n = some (.raw (.cells [v0, v1, v2, v3].toArray 34 (0, 0))) := by simp -implicitDefEqProofs (disch := first | omega | (simp only [St.set_n, St.up_n, List.length_cons, List.length_nil]; omega)) only [go_sem, Nat.reduceAdd, Nat.reduceMul, Nat.reduceSub, Int.reduceAdd, Int.reduceMul, Int.reduceSub, Int.reduceNeg, Int.reduceToNat]
      have hna05 : sa04.n ≤ ((sa04.set sa04.n (.raw (.cells [v0, v1, v2, v3].toArray 34 (0, 0)))).up (sa04.n + 1)).n := by simp only [St.up_n]; omega
      generalize ((sa04.set sa04.n (.raw (.cells [v0, v1, v2, v3].toArray 34 (0, 0)))).up (sa04.n + 1)) = sa05 at hka05 hwa05 hma05 hna05 ⊢
      have hIa05 := LgI.keep hIa04 hka05 hna05
      have q6 : sa05.m bc = _ := (LgI.at hIa05 (hbc _))
      simp -implicitDefEqProofs (disch := first | omega | (simp only [St.set_n, St.up_n, List.length_cons, List.length_nil]; omega)) only [go_sem, Nat.reduceAdd, Nat.reduceMul, Nat.reduceSub, Int.reduceAdd, Int.reduceMul, Int.reduceSub, Int.reduceNeg, Int.reduceToNat, f7, f8, f9, q6]
      have q6 : sa05.m bc = _ := (LgI.at hIa05 (hbc _))
      try simp -implicitDefEqProofs (disch := first | omega | (simp only [St.set_n, St.up_n, List.length_cons, List.length_nil]; omega)) only [go_sem, Nat.reduceAdd, Nat.reduceMul, Nat.reduceSub, Int.reduceAdd, Int.reduceMul, Int.reduceSub, Int.reduceNeg, Int.reduceToNat, f7, f8, f9, q6]
      have hIo := hIa05
      rw [o2_eq] at hIo
      have hsl := hma05
      refine callF_wf (m_run (Y := lgSys (oL (B := B) (onH bgot bset cb b I)) 4) (x0 := o2S os u1) hIo (show (4 : Nat) ≤ 1000 by omega) (by simp) ⟨⟨_, _, rfl⟩, fc_block hsl rfl⟩ (fun s hs => fc_block (by rw [hs _ (hwa05.2 _ _ hsl).2]; exact hsl) rfl) slR_nil hR2 fun mv vs' sR om hIR hnR hkR hwR => ?_)
      rw [t1]
      obtain ⟨Am2, cm2, rfl, _⟩ := om.is
      rw [t2]
      have q6 : sR.m bc = _ := (LgI.at (H := onH bgot bset cb b I) hIR (hbc _))
      have htR := hkR _ _ (.inr rfl) (hka05 _ _ (hka04 _ _ (.inr rfl) (hka03 _ _ (.inr rfl) (hka02 _ _ (.inr rfl) (hka01 _ _ (.inr rfl) hta0)))))
      simp -implicitDefEqProofs (disch := first | omega | (simp only [St.set_n, St.up_n, List.length_cons, List.length_nil]; omega)) only [go_sem, Nat.reduceAdd, Nat.reduceMul, Nat.reduceSub, Int.reduceAdd, Int.reduceMul, Int.reduceSub, Int.reduceNeg, Int.reduceToNat, f7, f8, f9, q6, htR]
      exact ⟨_, To.refl _ _, ⟨by simp -implicitDefEqProofs (disch := first | omega | (simp only [St.set_n, St.up_n, List.length_cons, List.length_nil]; omega)) only [go_sem, Nat.reduceAdd, Nat.reduceMul, Nat.reduceSub, Int.reduceAdd, Int.reduceMul, Int.reduceSub, Int.reduceNeg, Int.reduceToNat, f7], by simp -implicitDefEqProofs (disch := first | omega | (simp only [St.set_n, St.up_n, List.length_cons, List.length_nil]; omega)) only [go_sem, Nat.reduceAdd, Nat.reduceMul, Nat.reduceSub, Int.reduceAdd, Int.reduceMul, Int.reduceSub, Int.reduceNeg, Int.reduceToNat, f8], by simp -implicitDefEqProofs (disch := first | omega | (simp only [St.set_n, St.up_n, List.length_cons, List.length_nil]; omega)) only [go_sem, Nat.reduceAdd, Nat.reduceMul, Nat.reduceSub, Int.reduceAdd, Int.reduceMul, Int.reduceSub, Int.reduceNeg, Int.reduceToNat, f9], by simp -implicitDefEqProofs (disch := first | omega | (simp only [St.set_n, St.up_n, List.length_cons, List.length_nil]; omega)) only [go_sem, Nat.reduceAdd, Nat.reduceMul, Nat.reduceSub, Int.reduceAdd, Int.reduceMul, Int.reduceSub, Int.reduceNeg, Int.reduceToNat, fd]⟩, ⟨tb, Am2, cm2, R2.1.ca, R2.1.x.1, by simp -implicitDefEqProofs (disch := first | omega | (simp only [St.set_n, St.up_n, List.length_cons, List.length_nil]; omega)) only [go_sem, Nat.reduceAdd, Nat.reduceMul, Nat.reduceSub, Int.reduceAdd, Int.reduceMul, Int.reduceSub, Int.reduceNeg, Int.reduceToNat], by simp -implicitDefEqProofs (disch := first | omega | (simp only [St.set_n, St.up_n, List.length_cons, List.length_nil]; omega)) only [go_sem, Nat.reduceAdd, Nat.reduceMul, Nat.reduceSub, Int.reduceAdd, Int.reduceMul, Int.reduceSub, Int.reduceNeg, Int.reduceToNat], LgI.owE hIR (fun c y hx => hkR c y (.inl (hwf.2 _ _ hx).2) ((fun c y hx => hka05 c y ((fun c y hx => hka04 c y (.inl (hwf.2 _ _ hx).2) ((fun c y hx => hka03 c y (.inl (hwf.2 _ _ hx).2) ((fun c y hx => hka02 c y (.inl (hwf.2 _ _ hx).2) ((fun c y hx => hka01 c y (.inl (hwf.2 _ _ hx).2) ((fun c y hx => hka0 c y (hW11.old c y hx)) c y hx)) c y hx)) c y hx)) c y hx)) c y hx)) c y hx)) (Nat.le_trans (Nat.le_trans (Nat.le_trans (Nat.le_trans (Nat.le_trans (Nat.le_trans (Nat.le_trans hW11.n hna0) hna01) hna02) hna03) hna04) hna05) hnR) htna0 hwf _, t3⟩⟩
  clear hW11 hw11
  rintro e s12 hw12 ⟨⟨f7, f8, f9, fd⟩, ⟨tb, A2, c2, ca2, u2, f14, ht, hW12, hu2⟩⟩
  have q1 := (hW12.w _ _ (on_lk hd (u := u2))).1
  have q2 := (hW12.w _ _ (hgH u2)).1
  have e3 : ((os.length + 3 : Nat) : Int) = (os.length : Int) + 3 := by omega
  refine SemS.seqw fun _ => ?_
  simp -implicitDefEqProofs (disch := first | omega | (simp only [St.set_n, St.up_n, List.length_cons, List.length_nil]; omega)) only [go_sem, Nat.reduceAdd, Nat.reduceMul, Nat.reduceSub, Int.reduceAdd, Int.reduceMul, Int.reduceSub, Int.reduceNeg, Int.reduceToNat, f7, f8, f14, ht, e3]
  refine callF_of (on_held (u := 3) (r := []) q2 q1 (by omega) (heldTo_none _ _ _ fun i hi => ⟨_, lksA_get hi, by rw [hu2 i hi]; omega⟩) fun vh s13 hO13 hb13 hold13 hn13 hw13 => ?_)
  obtain ⟨Ah2, ch2, rfl, _⟩ := hO13.is
  have hW13 := hW12.keep (fun c y hx => hold13 c y (hw12.2 _ _ hx).2 hx) hn13
  clear hW12 hold13 ht hw12
  simp -implicitDefEqProofs (disch := first | omega | (simp only [St.set_n, St.up_n, List.length_cons, List.length_nil]; omega)) only [go_sem, Nat.reduceAdd, Nat.reduceMul, Nat.reduceSub, Int.reduceAdd, Int.reduceMul, Int.reduceSub, Int.reduceNeg, Int.reduceToNat, e0]
  refine SemS.seqw fun _ => ?_
  simp -implicitDefEqProofs (disch := first | omega | (simp only [St.set_n, St.up_n, List.length_cons, List.length_nil]; omega)) only [go_sem, Nat.reduceAdd, Nat.reduceMul, Nat.reduceSub, Int.reduceAdd, Int.reduceMul, Int.reduceSub, Int.reduceNeg, Int.reduceToNat]
  refine SemS.seqw fun _ => ?_
  simp -implicitDefEqProofs (disch := first | omega | (simp only [St.set_n, St.up_n, List.length_cons, List.length_nil]; omega)) only [go_sem, Nat.reduceAdd, Nat.reduceMul, Nat.reduceSub, Int.reduceAdd, Int.reduceMul, Int.reduceSub, Int.reduceNeg, Int.reduceToNat]
  refine callF_of (lock_try (c := #[.int .i64 0, .int .i64 0, .int .i64 0]) (ty := 54) (x := 0) (n := 0) (k := 0) (by simp -implicitDefEqProofs (disch := first | omega | (simp only [St.set_n, St.up_n, List.length_cons, List.length_nil]; omega)) only [go_sem, Nat.reduceAdd, Nat.reduceMul, Nat.reduceSub, Int.reduceAdd, Int.reduceMul, Int.reduceSub, Int.reduceNeg, Int.reduceToNat] <;> rfl) rfl rfl rfl fun j hj => ?_)
  simp only [tryB, tryC, leftAs]
  have hσ13 := hW13.old
  have hn13' := hW13.n
  have hW14 : OW σ (thH s13.n) (fun _ => (9, 1, 1)) ((s13.set s13.n (.raw (.cells #[.int .i64 9, .int .i64 1, .int .i64 1] 54 (0, 0)))).up j) := by
    refine ⟨fun c y hc => ?_, fun c y hx => ?_, by simp only [St.up_n] at hj ⊢; omega⟩
    · unfold thH at hc
      split at hc
      · rename_i e; subst e; cases hc
        exact ⟨by simp -implicitDefEqProofs (disch := first | omega | (simp only [St.set_n, St.up_n, List.length_cons, List.length_nil]; omega)) only [go_sem, Nat.reduceAdd, Nat.reduceMul, Nat.reduceSub, Int.reduceAdd, Int.reduceMul, Int.reduceSub, Int.reduceNeg, Int.reduceToNat]; rfl, by omega⟩
      · cases hc
    · have h1 := hσ13 c y hx
      have := (hw13.2 _ _ h1).2
      simp -implicitDefEqProofs (disch := first | omega | (simp only [St.set_n, St.up_n, List.length_cons, List.length_nil]; omega)) only [go_sem, Nat.reduceAdd, Nat.reduceMul, Nat.reduceSub, Int.reduceAdd, Int.reduceMul, Int.reduceSub, Int.reduceNeg, Int.reduceToNat, h1]
  simp -implicitDefEqProofs (disch := first | omega | (simp only [St.set_n, St.up_n, List.length_cons, List.length_nil]; omega)) only [go_sem, Nat.reduceAdd, Nat.reduceMul, Nat.reduceSub, Int.reduceAdd, Int.reduceMul, Int.reduceSub, Int.reduceNeg, Int.reduceToNat]
  generalize (s13.set s13.n (.raw (.cells #[.int .i64 9, .int .i64 1, .int .i64 1] 54 (0, 0)))).up j = s14 at hW14 ⊢
  generalize s13.n = bl at hW14 ⊢
  obtain ⟨R3, hR3⟩ : ∃ R, Sys.loopA (Y := lgSys (tL (B := B) (thH bl)) 2) 70000 (Sys.picksA ⟨o3S (fun _ => (9, 1, 1)), [], 0⟩ []) = R := ⟨_, rfl⟩
  obtain ⟨k1', k2', k3'⟩ := three_run (B := B) 1 1 hR3
  refine SemS.seqw fun hw14 => ?_
  simp -implicitDefEqProofs (disch := first | omega | (simp only [St.set_n, St.up_n, List.length_cons, List.length_nil]; omega)) only [go_sem, Nat.reduceAdd, Nat.reduceMul, Nat.reduceSub, Int.reduceAdd, Int.reduceMul, Int.reduceSub, Int.reduceNeg, Int.reduceToNat]
  refine callF_of (th_call (hW14.lgi (B := B) (A := Act) (ex := ex3)) hw14 th_0 fun v0 s15 hI15 hk15 hn15 hw15 hv0 => ?_)
  simp -implicitDefEqProofs (disch := first | omega | (simp only [St.set_n, St.up_n, List.length_cons, List.length_nil]; omega)) only [go_sem, Nat.reduceAdd, Nat.reduceMul, Nat.reduceSub, Int.reduceAdd, Int.reduceMul, Int.reduceSub, Int.reduceNeg, Int.reduceToNat]
  refine callF_of (th_call hI15 hw15 th_1 fun v1 s16 hI16 hk16 hn16 hw16 hv1 => ?_)
  simp -implicitDefEqProofs (disch := first | omega | (simp only [St.set_n, St.up_n, List.length_cons, List.length_nil]; omega)) only [go_sem, Nat.reduceAdd, Nat.reduceMul, Nat.reduceSub, Int.reduceAdd, Int.reduceMul, Int.reduceSub, Int.reduceNeg, Int.reduceToNat]
  refine bslK_ones (vs := [v0, v1]) se28 zr34 rfl (two_one hv0 hv1) rfl rfl (by omega) ?_
  simp only [List.nil_append, List.cons_append] at hI16
  have hkb : ∀ c y, s16.m c = some y → ((s16.set s16.n (.raw (.cells [v0, v1].toArray 34 (0, 0)))).up (s16.n + 1)).m c = some y := fun c y hx => by
    have := (hw16.2 _ _ hx).2
    simp -implicitDefEqProofs (disch := first | omega | (simp only [St.set_n, St.up_n, List.length_cons, List.length_nil]; omega)) only [go_sem, Nat.reduceAdd, Nat.reduceMul, Nat.reduceSub, Int.reduceAdd, Int.reduceMul, Int.reduceSub, Int.reduceNeg, Int.reduceToNat, hx]
  have hwb := set_wf1 (y := .raw (.cells [v0, v1].toArray 34 (0, 0))) hw16
  have hmb : ((s16.set s16.n (.raw (.cells [v0, v1].toArray 34 (0, 0)))).up (s16.n + 1)).m s16.n = some (.raw (.cells [v0, v1].toArray 34 (0, 0))) := by simp -implicitDefEqProofs (disch := first | omega | (simp only [St.set_n, St.up_n, List.length_cons, List.length_nil]; omega)) only [go_sem, Nat.reduceAdd, Nat.reduceMul, Nat.reduceSub, Int.reduceAdd, Int.reduceMul, Int.reduceSub, Int.reduceNeg, Int.reduceToNat]
  have hnb : s16.n ≤ ((s16.set s16.n (.raw (.cells [v0, v1].toArray 34 (0, 0)))).up (s16.n + 1)).n := by simp only [St.up_n]; omega
  generalize (s16.set s16.n (.raw (.cells [v0, v1].toArray 34 (0, 0)))).up (s16.n + 1) = s17 at hkb hwb hmb hnb ⊢
  have hI17 := LgI.keep hI16 hkb hnb
  rw [o3_eq] at hI17
  have hσ17 : ∀ c y, σ.m c = some y → s17.m c = some y := fun c y hx => hkb _ _ (hk16 c y (hwf.2 _ _ hx).2 (hk15 c y (hwf.2 _ _ hx).2 (hW14.old c y hx)))
  have hn17 : σ.n ≤ s17.n := by have := hW14.n; omega
  simp -implicitDefEqProofs (disch := first | omega | (simp only [St.set_n, St.up_n, List.length_cons, List.length_nil]; omega)) only [go_sem, Nat.reduceAdd, Nat.reduceMul, Nat.reduceSub, Int.reduceAdd, Int.reduceMul, Int.reduceSub, Int.reduceNeg, Int.reduceToNat]
  refine callF_wf (m_run (Y := lgSys (tL (B := B) (thH bl)) 2) (x0 := o3S (fun _ => (9, 1, 1))) hI17 (show (2 : Nat) ≤ 1000 by omega) (by simp) ⟨⟨_, _, rfl⟩, fc_block hmb rfl⟩ (fun s hs => fc_block (by rw [hs _ (hwb.2 _ _ hmb).2]; exact hmb) rfl) slR_nil hR3 fun mv vs' s18 om hI18 hn18 hk18 hw18 => ?_)
  rw [k1']
  rw [k2'] at om
  obtain ⟨Am3, cm3, rfl, _⟩ := om.is
  simp only [List.length_nil] at om
  have hbl : s18.m bl = _ := LgI.at (H := thH bl) hI18 ((thL bl).hb _)
  have hbln := (hw18.2 _ _ hbl).2
  simp -implicitDefEqProofs (disch := first | omega | (simp only [St.set_n, St.up_n, List.length_cons, List.length_nil]; omega)) only [go_sem, Nat.reduceAdd, Nat.reduceMul, Nat.reduceSub, Int.reduceAdd, Int.reduceMul, Int.reduceSub, Int.reduceNeg, Int.reduceToNat]
  refine SemS.wp fun hw19 => ?_
  have e00 : (([] : List Int).length : Int) = 0 := rfl
  have hσ19 : ∀ c y, σ.m c = some y → ((s18.set s18.n (.raw (.cells #[.slice Am3 0 cm3, .int .i64 R3.1.ca, .int .i64 12] 44 (0, 0)))).up (s18.n + 1)).m c = some y := fun c y hx => by
    have h1 := hk18 c y (hwf.2 _ _ hx).2 (hσ17 c y hx)
    have := (hw18.2 _ _ h1).2
    simp -implicitDefEqProofs (disch := first | omega | (simp only [St.set_n, St.up_n, List.length_cons, List.length_nil]; omega)) only [go_sem, Nat.reduceAdd, Nat.reduceMul, Nat.reduceSub, Int.reduceAdd, Int.reduceMul, Int.reduceSub, Int.reduceNeg, Int.reduceToNat, h1]
  have ht19 : ((s18.set s18.n (.raw (.cells #[.slice Am3 0 cm3, .int .i64 R3.1.ca, .int .i64 12] 44 (0, 0)))).up (s18.n + 1)).m s18.n = some (.raw (.cells #[.slice Am3 0 cm3, .int .i64 R3.1.ca, .int .i64 12] 44 (0, 0))) := by simp -implicitDefEqProofs (disch := first | omega | (simp only [St.set_n, St.up_n, List.length_cons, List.length_nil]; omega)) only [go_sem, Nat.reduceAdd, Nat.reduceMul, Nat.reduceSub, Int.reduceAdd, Int.reduceMul, Int.reduceSub, Int.reduceNeg, Int.reduceToNat]
  have hb19 : ((s18.set s18.n (.raw (.cells #[.slice Am3 0 cm3, .int .i64 R3.1.ca, .int .i64 12] 44 (0, 0)))).up (s18.n + 1)).m bl = _ := (show _ = s18.m bl by simp -implicitDefEqProofs (disch := first | omega | (simp only [St.set_n, St.up_n, List.length_cons, List.length_nil]; omega)) only [go_sem, Nat.reduceAdd, Nat.reduceMul, Nat.reduceSub, Int.reduceAdd, Int.reduceMul, Int.reduceSub, Int.reduceNeg, Int.reduceToNat]).trans hbl
  have hn19 : σ.n ≤ ((s18.set s18.n (.raw (.cells #[.slice Am3 0 cm3, .int .i64 R3.1.ca, .int .i64 12] 44 (0, 0)))).up (s18.n + 1)).n := by simp only [St.up_n]; omega
  generalize (s18.set s18.n (.raw (.cells #[.slice Am3 0 cm3, .int .i64 R3.1.ca, .int .i64 12] 44 (0, 0)))).up (s18.n + 1) = s19 at hσ19 ht19 hb19 hn19 ⊢
  simp -implicitDefEqProofs (disch := first | omega | (simp only [St.set_n, St.up_n, List.length_cons, List.length_nil]; omega)) only [go_sem, Nat.reduceAdd, Nat.reduceMul, Nat.reduceSub, Int.reduceAdd, Int.reduceMul, Int.reduceSub, Int.reduceNeg, Int.reduceToNat, ht19, e00, f8]
  refine callF_of (lock_owner (x := 9) hb19 (by rw [(lk_cells (lksA_get (show 0 < 1 by omega))).1]; exact congrArg some (congrArg _ k3')) ?_)
  simp -implicitDefEqProofs (disch := first | omega | (simp only [St.set_n, St.up_n, List.length_cons, List.length_nil]; omega)) only [go_sem, Nat.reduceAdd, Nat.reduceMul, Nat.reduceSub, Int.reduceAdd, Int.reduceMul, Int.reduceSub, Int.reduceNeg, Int.reduceToNat, f8]
  refine callF_of (locks_nil ⟨_, rfl⟩ fun s20 hk20 hn20 => ?_)
  simp -implicitDefEqProofs (disch := first | omega | (simp only [St.set_n, St.up_n, List.length_cons, List.length_nil]; omega)) only [go_sem, Nat.reduceAdd, Nat.reduceMul, Nat.reduceSub, Int.reduceAdd, Int.reduceMul, Int.reduceSub, Int.reduceNeg, Int.reduceToNat, f8]
  refine callF_of (free_nil ⟨_, rfl⟩ fun s21 hk21 hn21 => ?_)
  simp -implicitDefEqProofs (disch := first | omega | (simp only [St.set_n, St.up_n, List.length_cons, List.length_nil]; omega)) only [go_sem, Nat.reduceAdd, Nat.reduceMul, Nat.reduceSub, Int.reduceAdd, Int.reduceMul, Int.reduceSub, Int.reduceNeg, Int.reduceToNat, fd]
  exact ⟨_, To.same (fun d y h2 h3 => hk21 _ _ (hk20 _ _ (hσ19 d y h3))) hwf, hK _ (by omega)⟩
end
end Go.Proofs.Ytdbgeahmhfocaaa
