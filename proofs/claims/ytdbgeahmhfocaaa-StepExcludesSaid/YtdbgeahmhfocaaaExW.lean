/- 'StepExcludes': the walk. -/
import Derived.Test.YtdbgeahmhfocaaaFrk2
namespace Go.Proofs.Ytdbgeahmhfocaaa
set_option linter.unusedSimpArgs false
set_option linter.unusedVariables false
set_option maxRecDepth 100000
open Go Go.RowKit
section
variable {B : World} {σ : St} {K : Value → St → Prop}
structure XO (q : XB) : Prop where
  d1 : q.bth < q.b
  d2 : q.b < q.g
  d3 : q.g < q.bg
  d4 : q.bg < q.ws
  d5 : q.ws < q.bwi
  d6 : q.bwi < q.bbad
  d7 : q.bbad < q.bdn
def xH0 (q : XB) (n : Nat) (tv : Value) (u : XU) : HF := fun c =>
  if c = q.bbad then some (.raw (.cells #[.bool u.bad] 4 (0, 0))) else if c = q.ws then some (.raw (.cells (bls n u.wi).toArray 4 (0, 0)))
  else if c = q.bdn then some (.raw (.cells #[.int .i64 u.dn] 3 (0, 0))) else if c = q.b then some (.raw (.cells (flat fLk (lksA 8 u.l)).toArray 54 (0, 0)))
  else if c = q.bth then some (.raw (.cells #[tv] 23 (0, 0))) else if c = q.bwi then some (.raw (.cells #[.slice (some ⟨q.ws, 0, none⟩) n n] 27 (0, 0)))
  else if c = q.bg then some (.raw (.cells #[.pointer (some ⟨q.g, 0, none⟩)] 25 (0, 0))) else if c = q.g then some (.raw (.cells #[.slice (some ⟨q.b, 0, none⟩) (8 : Nat) (8 : Nat)] 60 (0, 0))) else none
variable {q : XB} {n : Nat} {ods : Nat → List Int} {th : List (List Int)} {tv : Value}
theorem XW.init (h8 : n ≤ 8) (hl : th.length = n) (hv : SlR B 1 (RTs B) th tv) (hod : ∀ t, ods t = rise (th.getD t []) 8) (ho : XO q) (cb : Nat → Nat) : XW B q n ods th tv cb (xH0 q n tv) := by
  have d1 := ho.d1
  have d2 := ho.d2
  have d3 := ho.d3
  have d4 := ho.d4
  have d5 := ho.d5
  have d6 := ho.d6
  have d7 := ho.d7
  refine ⟨h8, hl, hv, hod, fun u => ?_, fun u => ?_, fun u x c hc => ?_, fun u => ?_, fun u => ?_, fun u x c hc => ?_, fun u => ?_, fun u x c hc => ?_, fun u => ?_, fun u => ?_, fun u => ?_, fun u l c hc => ?_, fun u j x c hc => rfl, by omega, by omega, by omega⟩ <;> unfold xH0
  · rw [if_neg (by omega), if_neg (by omega), if_neg (by omega), if_neg (by omega), if_pos rfl]
  · rw [if_pos rfl]
  · simp only [if_neg hc]
  · rw [if_neg (by omega), if_neg (by omega), if_neg (by omega), if_neg (by omega), if_neg (by omega), if_pos rfl]
  · rw [if_neg (by omega), if_pos rfl]
  · simp only [if_neg hc]
  · rw [if_neg (by omega), if_neg (by omega), if_pos rfl]
  · simp only [if_neg hc]
  · rw [if_neg (by omega), if_neg (by omega), if_neg (by omega), if_neg (by omega), if_neg (by omega), if_neg (by omega), if_pos rfl]
  · rw [if_neg (by omega), if_neg (by omega), if_neg (by omega), if_neg (by omega), if_neg (by omega), if_neg (by omega), if_neg (by omega), if_pos rfl]
  · rw [if_neg (by omega), if_neg (by omega), if_neg (by omega), if_pos rfl]
  · simp only [if_neg hc]
theorem XLow.init (ho : XO q) : XLow (xH0 q n tv) 0 (q.bdn + 1) := by
  have d1 := ho.d1
  have d2 := ho.d2
  have d3 := ho.d3
  have d4 := ho.d4
  have d5 := ho.d5
  have d6 := ho.d6
  have d7 := ho.d7
  refine ⟨fun u c hc => ?_, fun u j x c hj => rfl⟩
  unfold xH0 at hc
  split at hc
  · omega
  · split at hc
    · omega
    · split at hc
      · omega
      · split at hc
        · omega
        · split at hc
          · omega
          · split at hc
            · omega
            · split at hc
              · omega
              · split at hc
                · omega
                · exact absurd rfl hc
theorem zc_bls (n : Nat) : zc (.bool false) n = (bls n fun _ => false).toArray := by
  have hl : (zc (.bool false) n).size = n := by simp [zc, zcells]
  apply Array.ext
  · rw [hl]; simp [bls]
  · intro i h1 h2
    simp [zc, zcells, bls, Value.cells, Array.getElem_map, Nat.mod_one]
structure ExF (pv : Value) (q : XB) (tm bi : Nat) (A : Option Addr) (j c : Nat) (e : Fr) : Prop where
  v0 : e.v 0 = pv
  v4 : e.v 4 = .pointer (some ⟨q.bth, 0, none⟩)
  v7 : e.v 7 = .pointer (some ⟨q.bg, 0, none⟩)
  v8 : e.v 8 = .pointer (some ⟨q.bwi, 0, none⟩)
  v9 : e.v 9 = .pointer (some ⟨q.bbad, 0, none⟩)
  v10 : e.v 10 = .pointer (some ⟨q.bdn, 0, none⟩)
  v11 : e.v 11 = .int .i64 tm
  v12 : e.v 12 = .slice A j c
  v13 : e.v 13 = .pointer (some ⟨bi, 0, none⟩)
  d : e.d = []
def xu0 : XU := ⟨fun _ => (0, 0, 0), fun _ => (0, 0), fun _ => false, false, 0⟩
def xTs (ods : Nat → List Int) (tm j : Nat) : Nat → List Act := fun t => if t < j then progX (ods t) tm else []
theorem xTs_succ (ods : Nat → List Int) (tm j : Nat) : updL (xTs ods tm j) j (progX (ods j) tm) = xTs ods tm (j + 1) := by
  funext t
  unfold xTs updL
  by_cases e : t = j
  · subst e; simp
  · simp only [if_neg e]
    by_cases h : t < j
    · rw [if_pos h, if_pos (by omega)]
    · rw [if_neg h, if_neg (by omega)]
structure ExS (B : World) (σ : St) (q : XB) (n : Nat) (ods : Nat → List Int) (th : List (List Int)) (tv : Value) (tm bi : Nat) (A : Option Addr) (j c : Nat) (s : St) : Prop where
  x : ∃ (vs : List Value) (H : XU → HF) (cb : Nat → Nat) (s0 : St), XW B q n ods th tv cb H ∧ XLow H j s0.n ∧ LgI (xL (B := B) n ods H) j (fun c' => c' < σ.n ∨ blk (.slice A j c) = some c') (xu0, xTs ods tm j) vs s0 ∧ s0.wf B ∧ (∀ c, c < s0.n → s.m c = s0.m c) ∧ s0.n ≤ bi ∧ s0.n ≤ s.n ∧ Own s0 34 1 vs j (.slice A j c) ∧
    (∀ c y, σ.m c = some y → s0.m c = some y) ∧ σ.n ≤ s0.n ∧ ∀ b, blk (.slice A j c) = some b → σ.n ≤ b
  i : s.m bi = some (.raw (.cells #[.int .i64 j] 3 (0, 0)))
structure ExG (q : XB) (i : Nat) (e : Fr) : Prop where
  v7 : e.v 7 = .pointer (some ⟨q.bg, 0, none⟩)
  v18 : e.v 18 = .int .i64 i
  d : e.d = []
set_option maxHeartbeats 8000000 in
theorem excl21 {picks : List Int} {pv : Value} {rd : Int} (hp : SlR B 1 RInt picks pv) (hv : SlR B 1 (RTs B) th tv) (hrd : 0 ≤ rd ∧ rd < 256) (hK : ∀ k, σ.n ≤ k → K (.bool true) (σ.up k)) : Fn Try.prog B 3 #[pv, tv, .int .u8 rd] σ K := by
  have hp' := hp
  have hv' := hv
  obtain ⟨a, cap, rfl, hlc, hcm, hnil, hat⟩ := hp
  obtain ⟨Av, capv, rfl, hlcv, hcmv, hnilv, hatv⟩ := hv
  refine Fn.ofS is3 (by simp) fun hwf => ?_
  have hB := hwf.1
  simp only [b3, Try.f3, Option.getD_some]
  refine SemS.seqw fun _ => ?_
  simp -implicitDefEqProofs (disch := first | omega | (simp only [St.set_n, St.up_n, List.length_cons, List.length_nil]; omega)) only [go_sem, Nat.reduceAdd, Nat.reduceMul, Nat.reduceSub, Int.reduceAdd, Int.reduceMul, Int.reduceSub, Int.reduceNeg, Int.reduceToNat]
  refine SemS.seqw fun _ => ?_
  simp -implicitDefEqProofs (disch := first | omega | (simp only [St.set_n, St.up_n, List.length_cons, List.length_nil]; omega)) only [go_sem, Nat.reduceAdd, Nat.reduceMul, Nat.reduceSub, Int.reduceAdd, Int.reduceMul, Int.reduceSub, Int.reduceNeg, Int.reduceToNat]
  refine callF_of (awake21 fun k1 hk1 => ?_)
  simp only [St.up_n] at hk1
  simp -implicitDefEqProofs (disch := first | omega | (simp only [St.set_n, St.up_n, List.length_cons, List.length_nil]; omega)) only [go_sem, Nat.reduceAdd, Nat.reduceMul, Nat.reduceSub, Int.reduceAdd, Int.reduceMul, Int.reduceSub, Int.reduceNeg, Int.reduceToNat]
  by_cases h500 : (500 : Int) < picks.length
  · refine SemS.wp fun _ => ?_
    simp -implicitDefEqProofs (disch := first | omega | (simp only [St.set_n, St.up_n, List.length_cons, List.length_nil]; omega)) only [go_sem, Nat.reduceAdd, Nat.reduceMul, Nat.reduceSub, Int.reduceAdd, Int.reduceMul, Int.reduceSub, Int.reduceNeg, Int.reduceToNat, h500]
    exact ⟨_, To.same (fun d y h2 h3 => by simp -implicitDefEqProofs (disch := first | omega | (simp only [St.set_n, St.up_n, List.length_cons, List.length_nil]; omega)) only [go_sem, Nat.reduceAdd, Nat.reduceMul, Nat.reduceSub, Int.reduceAdd, Int.reduceMul, Int.reduceSub, Int.reduceNeg, Int.reduceToNat, h3]) hwf, hK _ (by simp only [St.up_n]; omega)⟩
  by_cases h8 : (8 : Int) < th.length
  · refine SemS.wp fun _ => ?_
    simp -implicitDefEqProofs (disch := first | omega | (simp only [St.set_n, St.up_n, List.length_cons, List.length_nil]; omega)) only [go_sem, Nat.reduceAdd, Nat.reduceMul, Nat.reduceSub, Int.reduceAdd, Int.reduceMul, Int.reduceSub, Int.reduceNeg, Int.reduceToNat, h500, h8]
    exact ⟨_, To.same (fun d y h2 h3 => by simp -implicitDefEqProofs (disch := first | omega | (simp only [St.set_n, St.up_n, List.length_cons, List.length_nil]; omega)) only [go_sem, Nat.reduceAdd, Nat.reduceMul, Nat.reduceSub, Int.reduceAdd, Int.reduceMul, Int.reduceSub, Int.reduceNeg, Int.reduceToNat, h3]) hwf, hK _ (by simp only [St.up_n]; omega)⟩
  refine SemS.seqw fun hw1 => ?_
  simp -implicitDefEqProofs (disch := first | omega | (simp only [St.set_n, St.up_n, List.length_cons, List.length_nil]; omega)) only [go_sem, Nat.reduceAdd, Nat.reduceMul, Nat.reduceSub, Int.reduceAdd, Int.reduceMul, Int.reduceSub, Int.reduceNeg, Int.reduceToNat, h500, h8]
  refine SemS.seqw fun _ => ?_
  simp -implicitDefEqProofs (disch := first | omega | (simp only [St.set_n, St.up_n, List.length_cons, List.length_nil]; omega)) only [go_sem, Nat.reduceAdd, Nat.reduceMul, Nat.reduceSub, Int.reduceAdd, Int.reduceMul, Int.reduceSub, Int.reduceNeg, Int.reduceToNat]
  have hob : ((σ.set σ.n (.raw (.cells #[.slice Av th.length capv] 23 (0, 0)))).up k1).m σ.n = some (.raw (.cells #[.slice Av th.length capv] 23 (0, 0))) := by simp -implicitDefEqProofs (disch := first | omega | (simp only [St.set_n, St.up_n, List.length_cons, List.length_nil]; omega)) only [go_sem, Nat.reduceAdd, Nat.reduceMul, Nat.reduceSub, Int.reduceAdd, Int.reduceMul, Int.reduceSub, Int.reduceNeg, Int.reduceToNat]
  have hσ1 : ∀ c y, σ.m c = some y → ((σ.set σ.n (.raw (.cells #[.slice Av th.length capv] 23 (0, 0)))).up k1).m c = some y := fun c y hx => by
    have := (hwf.2 _ _ hx).2
    simp -implicitDefEqProofs (disch := first | omega | (simp only [St.set_n, St.up_n, List.length_cons, List.length_nil]; omega)) only [go_sem, Nat.reduceAdd, Nat.reduceMul, Nat.reduceSub, Int.reduceAdd, Int.reduceMul, Int.reduceSub, Int.reduceNeg, Int.reduceToNat, hx]
  have hn1 : σ.n + 1 ≤ ((σ.set σ.n (.raw (.cells #[.slice Av th.length capv] 23 (0, 0)))).up k1).n := by simp only [St.up_n]; omega
  generalize (σ.set σ.n (.raw (.cells #[.slice Av th.length capv] 23 (0, 0)))).up k1 = s1 at hw1 hob hσ1 hn1 ⊢
  refine callF_wf (locks fun g τ hg hgn hgr hold3 hne hwτ => ?_)
  have h8' : groupN 8 = 8 := rfl
  rw [h8'] at hgr hne
  have hne := hne.resolve_left (by omega)
  obtain ⟨hg1, hg2⟩ := hgr.resolve_left fun h => by cases h.1
  simp only [List.length_replicate] at hg1
  have hbn := (hwτ.2 _ _ hg2).2
  have hobτ := hold3 _ _ (by omega) hob
  simp -implicitDefEqProofs (disch := first | omega | (simp only [St.set_n, St.up_n, List.length_cons, List.length_nil]; omega)) only [go_sem, Nat.reduceAdd, Nat.reduceMul, Nat.reduceSub, Int.reduceAdd, Int.reduceMul, Int.reduceSub, Int.reduceNeg, Int.reduceToNat]
  refine SemS.seqw fun _ => ?_
  have hln : ¬ (th.length : Int) < 0 := by omega
  simp -implicitDefEqProofs (disch := first | omega | (simp only [St.set_n, St.up_n, List.length_cons, List.length_nil]; omega)) only [go_sem, Nat.reduceAdd, Nat.reduceMul, Nat.reduceSub, Int.reduceAdd, Int.reduceMul, Int.reduceSub, Int.reduceNeg, Int.reduceToNat, hobτ, hln]
  refine SemS.seqw fun _ => ?_
  simp -implicitDefEqProofs (disch := first | omega | (simp only [St.set_n, St.up_n, List.length_cons, List.length_nil]; omega)) only [go_sem, Nat.reduceAdd, Nat.reduceMul, Nat.reduceSub, Int.reduceAdd, Int.reduceMul, Int.reduceSub, Int.reduceNeg, Int.reduceToNat]
  refine SemS.seqw fun _ => ?_
  simp -implicitDefEqProofs (disch := first | omega | (simp only [St.set_n, St.up_n, List.length_cons, List.length_nil]; omega)) only [go_sem, Nat.reduceAdd, Nat.reduceMul, Nat.reduceSub, Int.reduceAdd, Int.reduceMul, Int.reduceSub, Int.reduceNeg, Int.reduceToNat]
  obtain ⟨tm, htm, htm6, hcv, hcw⟩ : ∃ tm : Nat, IntKind.i64.wrap (1 + rd.tmod 6) = tm ∧ tm ≤ 6 ∧ IntKind.i64.wrap rd = rd ∧ IntKind.i64.wrap (rd.tmod 6) = rd.tmod 6 := by
    have h1 := Int.tmod_lt_of_pos rd (show (0 : Int) < 6 by omega)
    have h2 := Int.tmod_nonneg 6 hrd.1
    refine ⟨(1 + rd.tmod 6).toNat, ?_, by omega, wrap_i64 (by omega), wrap_i64 (by omega)⟩
    rw [wrap_i64 (by omega)]; omega
  refine SemS.seqw fun _ => ?_
  simp -implicitDefEqProofs (disch := first | omega | (simp only [St.set_n, St.up_n, List.length_cons, List.length_nil]; omega)) only [go_sem, Nat.reduceAdd, Nat.reduceMul, Nat.reduceSub, Int.reduceAdd, Int.reduceMul, Int.reduceSub, Int.reduceNeg, Int.reduceToNat, hcv, hcw, htm]
  refine SemS.seqw fun hwL' => ?_
  simp -implicitDefEqProofs (disch := first | omega | (simp only [St.set_n, St.up_n, List.length_cons, List.length_nil]; omega)) only [go_sem, Nat.reduceAdd, Nat.reduceMul, Nat.reduceSub, Int.reduceAdd, Int.reduceMul, Int.reduceSub, Int.reduceNeg, Int.reduceToNat]
  obtain ⟨q, hq⟩ : ∃ q : XB, q = ⟨σ.n, τ.n + 1 + 1 + 1, τ.n + 1 + 1, τ.n + 1, τ.n + 1 + 1 + 1 + 1, τ.n, g, s1.n⟩ := ⟨_, rfl⟩
  have hq1 : q.bth = σ.n := by rw [hq]
  have hq2 : q.bbad = τ.n + 1 + 1 + 1 := by rw [hq]
  have hq3 : q.bwi = τ.n + 1 + 1 := by rw [hq]
  have hq4 : q.ws = τ.n + 1 := by rw [hq]
  have hq5 : q.bdn = τ.n + 1 + 1 + 1 + 1 := by rw [hq]
  have hq6 : q.bg = τ.n := by rw [hq]
  have hq7 : q.g = g := by rw [hq]
  have hq8 : q.b = s1.n := by rw [hq]
  have hO : XO q := ⟨by omega, by omega, by omega, by omega, by omega, by omega, by omega⟩
  obtain ⟨ods, hods⟩ : ∃ ods : Nat → List Int, ods = fun t => rise (th.getD t []) 8 := ⟨_, rfl⟩
  have hod : ∀ t, ods t = rise (th.getD t []) 8 := fun t => by rw [hods]
  have hoX : OdX th.length ods := ⟨fun t x hx => by
    rw [hod, mem_rise] at hx
    obtain ⟨i, h1, rfl, _⟩ := hx
    omega, fun t => by rw [hod]; exact rise_lt _ _⟩
  have hol : ∀ t, (ods t).length ≤ 8 := fun t => by rw [hod]; exact rise_len _ _
  have hws0 : ((((((τ.set τ.n (.raw (.cells #[.pointer (some ⟨g, 0, none⟩)] 25 (0, 0)))).set (τ.n + 1) (.raw (.cells (zc (.bool false) th.length) 4 (0, 0)))).set (τ.n + 1 + 1) (.raw (.cells #[.slice (some ⟨τ.n + 1, 0, none⟩) th.length th.length] 27 (0, 0)))).set (τ.n + 1 + 1 + 1) (.raw (.cells #[.bool false] 4 (0, 0)))).set (τ.n + 1 + 1 + 1 + 1) (.raw (.cells #[.int .i64 0] 3 (0, 0)))).up (τ.n + 1 + 1 + 1 + 1 + 1)).wf B := hwL'
  have hS0 : ∀ (c : Nat) (y : HP), xH0 q th.length (.slice Av th.length capv) xu0 c = some y → ((((((τ.set τ.n (.raw (.cells #[.pointer (some ⟨g, 0, none⟩)] 25 (0, 0)))).set (τ.n + 1) (.raw (.cells (zc (.bool false) th.length) 4 (0, 0)))).set (τ.n + 1 + 1) (.raw (.cells #[.slice (some ⟨τ.n + 1, 0, none⟩) th.length th.length] 27 (0, 0)))).set (τ.n + 1 + 1 + 1) (.raw (.cells #[.bool false] 4 (0, 0)))).set (τ.n + 1 + 1 + 1 + 1) (.raw (.cells #[.int .i64 0] 3 (0, 0)))).up (τ.n + 1 + 1 + 1 + 1 + 1)).m c = some y ∧ ¬ c < σ.n := fun c y hc => by
    unfold xH0 at hc
    rw [hq1, hq2, hq3, hq4, hq5, hq6, hq7, hq8] at hc
    split at hc
    · rename_i e; subst e; cases hc
      exact ⟨by simp -implicitDefEqProofs (disch := first | omega | (simp only [St.set_n, St.up_n, List.length_cons, List.length_nil]; omega)) only [go_sem, Nat.reduceAdd, Nat.reduceMul, Nat.reduceSub, Int.reduceAdd, Int.reduceMul, Int.reduceSub, Int.reduceNeg, Int.reduceToNat]; rfl, by omega⟩
    · split at hc
      · rename_i e; subst e; cases hc
        refine ⟨?_, by omega⟩
        simp -implicitDefEqProofs (disch := first | omega | (simp only [St.set_n, St.up_n, List.length_cons, List.length_nil]; omega)) only [go_sem, Nat.reduceAdd, Nat.reduceMul, Nat.reduceSub, Int.reduceAdd, Int.reduceMul, Int.reduceSub, Int.reduceNeg, Int.reduceToNat]
        rw [zc_bls]; rfl
      · split at hc
        · rename_i e; subst e; cases hc
          exact ⟨by simp -implicitDefEqProofs (disch := first | omega | (simp only [St.set_n, St.up_n, List.length_cons, List.length_nil]; omega)) only [go_sem, Nat.reduceAdd, Nat.reduceMul, Nat.reduceSub, Int.reduceAdd, Int.reduceMul, Int.reduceSub, Int.reduceNeg, Int.reduceToNat]; rfl, by omega⟩
        · split at hc
          · rename_i e; subst e; cases hc
            refine ⟨?_, by omega⟩
            simp -implicitDefEqProofs (disch := first | omega | (simp only [St.set_n, St.up_n, List.length_cons, List.length_nil]; omega)) only [go_sem, Nat.reduceAdd, Nat.reduceMul, Nat.reduceSub, Int.reduceAdd, Int.reduceMul, Int.reduceSub, Int.reduceNeg, Int.reduceToNat, hg2]
            rfl
          · split at hc
            · rename_i e; subst e; cases hc
              exact ⟨by simp -implicitDefEqProofs (disch := first | omega | (simp only [St.set_n, St.up_n, List.length_cons, List.length_nil]; omega)) only [go_sem, Nat.reduceAdd, Nat.reduceMul, Nat.reduceSub, Int.reduceAdd, Int.reduceMul, Int.reduceSub, Int.reduceNeg, Int.reduceToNat, hobτ], by omega⟩
            · split at hc
              · rename_i e; subst e; cases hc
                exact ⟨by simp -implicitDefEqProofs (disch := first | omega | (simp only [St.set_n, St.up_n, List.length_cons, List.length_nil]; omega)) only [go_sem, Nat.reduceAdd, Nat.reduceMul, Nat.reduceSub, Int.reduceAdd, Int.reduceMul, Int.reduceSub, Int.reduceNeg, Int.reduceToNat], by omega⟩
              · split at hc
                · rename_i e; subst e; cases hc
                  exact ⟨by simp -implicitDefEqProofs (disch := first | omega | (simp only [St.set_n, St.up_n, List.length_cons, List.length_nil]; omega)) only [go_sem, Nat.reduceAdd, Nat.reduceMul, Nat.reduceSub, Int.reduceAdd, Int.reduceMul, Int.reduceSub, Int.reduceNeg, Int.reduceToNat], by omega⟩
                · split at hc
                  · rename_i e; subst e; cases hc
                    exact ⟨by simp -implicitDefEqProofs (disch := first | omega | (simp only [St.set_n, St.up_n, List.length_cons, List.length_nil]; omega)) only [go_sem, Nat.reduceAdd, Nat.reduceMul, Nat.reduceSub, Int.reduceAdd, Int.reduceMul, Int.reduceSub, Int.reduceNeg, Int.reduceToNat, hg1], by omega⟩
                  · cases hc
  have hσ0 : ∀ c y, σ.m c = some y → ((((((τ.set τ.n (.raw (.cells #[.pointer (some ⟨g, 0, none⟩)] 25 (0, 0)))).set (τ.n + 1) (.raw (.cells (zc (.bool false) th.length) 4 (0, 0)))).set (τ.n + 1 + 1) (.raw (.cells #[.slice (some ⟨τ.n + 1, 0, none⟩) th.length th.length] 27 (0, 0)))).set (τ.n + 1 + 1 + 1) (.raw (.cells #[.bool false] 4 (0, 0)))).set (τ.n + 1 + 1 + 1 + 1) (.raw (.cells #[.int .i64 0] 3 (0, 0)))).up (τ.n + 1 + 1 + 1 + 1 + 1)).m c = some y := fun c y hx => by
    have h1 := (hwf.2 _ _ hx).2
    have h2 := hold3 _ _ (by omega) (hσ1 _ _ hx)
    simp -implicitDefEqProofs (disch := first | omega | (simp only [St.set_n, St.up_n, List.length_cons, List.length_nil]; omega)) only [go_sem, Nat.reduceAdd, Nat.reduceMul, Nat.reduceSub, Int.reduceAdd, Int.reduceMul, Int.reduceSub, Int.reduceNeg, Int.reduceToNat, h2]
  have hnS : ((((((τ.set τ.n (.raw (.cells #[.pointer (some ⟨g, 0, none⟩)] 25 (0, 0)))).set (τ.n + 1) (.raw (.cells (zc (.bool false) th.length) 4 (0, 0)))).set (τ.n + 1 + 1) (.raw (.cells #[.slice (some ⟨τ.n + 1, 0, none⟩) th.length th.length] 27 (0, 0)))).set (τ.n + 1 + 1 + 1) (.raw (.cells #[.bool false] 4 (0, 0)))).set (τ.n + 1 + 1 + 1 + 1) (.raw (.cells #[.int .i64 0] 3 (0, 0)))).up (τ.n + 1 + 1 + 1 + 1 + 1)).n = q.bdn + 1 := by rw [hq5]; rfl
  generalize ((((((τ.set τ.n (.raw (.cells #[.pointer (some ⟨g, 0, none⟩)] 25 (0, 0)))).set (τ.n + 1) (.raw (.cells (zc (.bool false) th.length) 4 (0, 0)))).set (τ.n + 1 + 1) (.raw (.cells #[.slice (some ⟨τ.n + 1, 0, none⟩) th.length th.length] 27 (0, 0)))).set (τ.n + 1 + 1 + 1) (.raw (.cells #[.bool false] 4 (0, 0)))).set (τ.n + 1 + 1 + 1 + 1) (.raw (.cells #[.int .i64 0] 3 (0, 0)))).up (τ.n + 1 + 1 + 1 + 1 + 1)) = s0 at hws0 hS0 hσ0 hnS ⊢
  have hn0 : σ.n ≤ s0.n := by omega
  refine SemS.seq (fun e s => ∃ (bi : Nat) (A : Option Addr) (c : Nat), ExF (.slice a picks.length cap) q tm bi A th.length c e ∧ ExS B σ q th.length ods th (.slice Av th.length capv) tm bi A th.length c s) ?_ ?_
  · refine SemS.seqw fun hw1' => ?_
    simp -implicitDefEqProofs (disch := first | omega | (simp only [St.set_n, St.up_n, List.length_cons, List.length_nil]; omega)) only [go_sem, Nat.reduceAdd, Nat.reduceMul, Nat.reduceSub, Int.reduceAdd, Int.reduceMul, Int.reduceSub, Int.reduceNeg, Int.reduceToNat]
    refine SemS.block (SemS.loop (fun m e s => ∃ (j bi : Nat) (A : Option Addr) (c : Nat), m = th.length - j ∧ j ≤ th.length ∧ ExF (.slice a picks.length cap) q tm bi A j c e ∧ ExS B σ q th.length ods th (.slice Av th.length capv) tm bi A j c s) th.length ?_ ?_)
    · refine ⟨0, s0.n, none, 0, by omega, by omega, ⟨by simp -implicitDefEqProofs (disch := first | omega | (simp only [St.set_n, St.up_n, List.length_cons, List.length_nil]; omega)) only [go_sem, Nat.reduceAdd, Nat.reduceMul, Nat.reduceSub, Int.reduceAdd, Int.reduceMul, Int.reduceSub, Int.reduceNeg, Int.reduceToNat], by simp -implicitDefEqProofs (disch := first | omega | (simp only [St.set_n, St.up_n, List.length_cons, List.length_nil]; omega)) only [go_sem, Nat.reduceAdd, Nat.reduceMul, Nat.reduceSub, Int.reduceAdd, Int.reduceMul, Int.reduceSub, Int.reduceNeg, Int.reduceToNat, hq1], by simp -implicitDefEqProofs (disch := first | omega | (simp only [St.set_n, St.up_n, List.length_cons, List.length_nil]; omega)) only [go_sem, Nat.reduceAdd, Nat.reduceMul, Nat.reduceSub, Int.reduceAdd, Int.reduceMul, Int.reduceSub, Int.reduceNeg, Int.reduceToNat, hq6], by simp -implicitDefEqProofs (disch := first | omega | (simp only [St.set_n, St.up_n, List.length_cons, List.length_nil]; omega)) only [go_sem, Nat.reduceAdd, Nat.reduceMul, Nat.reduceSub, Int.reduceAdd, Int.reduceMul, Int.reduceSub, Int.reduceNeg, Int.reduceToNat, hq3], by simp -implicitDefEqProofs (disch := first | omega | (simp only [St.set_n, St.up_n, List.length_cons, List.length_nil]; omega)) only [go_sem, Nat.reduceAdd, Nat.reduceMul, Nat.reduceSub, Int.reduceAdd, Int.reduceMul, Int.reduceSub, Int.reduceNeg, Int.reduceToNat, hq2], by simp -implicitDefEqProofs (disch := first | omega | (simp only [St.set_n, St.up_n, List.length_cons, List.length_nil]; omega)) only [go_sem, Nat.reduceAdd, Nat.reduceMul, Nat.reduceSub, Int.reduceAdd, Int.reduceMul, Int.reduceSub, Int.reduceNeg, Int.reduceToNat, hq5], by simp -implicitDefEqProofs (disch := first | omega | (simp only [St.set_n, St.up_n, List.length_cons, List.length_nil]; omega)) only [go_sem, Nat.reduceAdd, Nat.reduceMul, Nat.reduceSub, Int.reduceAdd, Int.reduceMul, Int.reduceSub, Int.reduceNeg, Int.reduceToNat], by first | (simp -implicitDefEqProofs (disch := first | omega | (simp only [St.set_n, St.up_n, List.length_cons, List.length_nil]; omega)) only [go_sem, Nat.reduceAdd, Nat.reduceMul, Nat.reduceSub, Int.reduceAdd, Int.reduceMul, Int.reduceSub, Int.reduceNeg, Int.reduceToNat]; done) | (simp -implicitDefEqProofs (disch := first | omega | (simp only [St.set_n, St.up_n, List.length_cons, List.length_nil]; omega)) only [go_sem, Nat.reduceAdd, Nat.reduceMul, Nat.reduceSub, Int.reduceAdd, Int.reduceMul, Int.reduceSub, Int.reduceNeg, Int.reduceToNat]; rfl), by simp -implicitDefEqProofs (disch := first | omega | (simp only [St.set_n, St.up_n, List.length_cons, List.length_nil]; omega)) only [go_sem, Nat.reduceAdd, Nat.reduceMul, Nat.reduceSub, Int.reduceAdd, Int.reduceMul, Int.reduceSub, Int.reduceNeg, Int.reduceToNat], by simp -implicitDefEqProofs (disch := first | omega | (simp only [St.set_n, St.up_n, List.length_cons, List.length_nil]; omega)) only [go_sem, Nat.reduceAdd, Nat.reduceMul, Nat.reduceSub, Int.reduceAdd, Int.reduceMul, Int.reduceSub, Int.reduceNeg, Int.reduceToNat]⟩, ⟨⟨[], xH0 q th.length (.slice Av th.length capv), fun _ => 0, s0, XW.init (by omega) rfl hv' hod hO _, hnS ▸ XLow.init hO, ?_, hws0, fun c hc => by simp -implicitDefEqProofs (disch := first | omega | (simp only [St.set_n, St.up_n, List.length_cons, List.length_nil]; omega)) only [go_sem, Nat.reduceAdd, Nat.reduceMul, Nat.reduceSub, Int.reduceAdd, Int.reduceMul, Int.reduceSub, Int.reduceNeg, Int.reduceToNat], Nat.le_refl _, by simp only [St.up_n]; omega, Own.nil, hσ0, hn0, fun b hb => (by cases hb)⟩, by first | (simp -implicitDefEqProofs (disch := first | omega | (simp only [St.set_n, St.up_n, List.length_cons, List.length_nil]; omega)) only [go_sem, Nat.reduceAdd, Nat.reduceMul, Nat.reduceSub, Int.reduceAdd, Int.reduceMul, Int.reduceSub, Int.reduceNeg, Int.reduceToNat]; done) | (simp -implicitDefEqProofs (disch := first | omega | (simp only [St.set_n, St.up_n, List.length_cons, List.length_nil]; omega)) only [go_sem, Nat.reduceAdd, Nat.reduceMul, Nat.reduceSub, Int.reduceAdd, Int.reduceMul, Int.reduceSub, Int.reduceNeg, Int.reduceToNat]; rfl)⟩⟩
      exact lgI_empty (fun c hc => hc.elim (fun h => by omega) fun h => by cases h) fun c y hy => ⟨(hS0 c y hy).1, fun hc => hc.elim (hS0 c y hy).2 fun h => by cases h⟩
    rintro m e s hws ⟨j, bi, A, c, hm, hj, ⟨q0, q4, q7, q8, q9, q10, q11, q12, q13, hd⟩, ⟨⟨vs, H, cb, sb, hW, hL, hI, hwb, hsb, hbi, hnb, hOw, hσb, hσn, hAb⟩, hbx⟩⟩
    have hth : s.m q.bth = _ := (hsb _ (hL.lt xu0 _ (by rw [hW.thb]; simp))).trans (LgI.at hI (hW.thb _))
    refine SemS.wp fun _ => ?_
    by_cases hlt : (j : Int) < th.length
    · obtain ⟨l, hl⟩ : ∃ l, th[j]? = some l := ⟨th[j]'(by omega), List.getElem?_eq_getElem (by omega)⟩
      obtain ⟨b, o, cs, rfl, hbb, ⟨v', rfl, hv2⟩, hsz, hcell⟩ := hatv j l hl
      have c0 : B.cell? ⟨b, o + j * 1, none⟩ = _ := hcell 0 _ rfl
      rw [Nat.mul_one] at c0
      have hsb' : s.m b = none := by
        cases hx : s.m b with
        | none => rfl
        | some y => have := (hws.2 _ _ hx).1; omega
      have hodj : ods j = rise l 8 := by rw [hod, List.getD_eq_getElem?_getD, hl]; rfl
      have hbin := (hws.2 _ _ hbx).2
      have hv2' := hv2
      obtain ⟨a2, cap2, rfl, hlc2, hcm2, _⟩ := hv2
      by_cases h100 : (100 : Int) < l.length
      · simp -implicitDefEqProofs (disch := first | omega | (simp only [St.set_n, St.up_n, List.length_cons, List.length_nil]; omega)) only [go_sem, Nat.reduceAdd, Nat.reduceMul, Nat.reduceSub, Int.reduceAdd, Int.reduceMul, Int.reduceSub, Int.reduceNeg, Int.reduceToNat, q4, q13, hbx, hth, hlt, hsb', hbb, c0, h100, hd]
        refine ⟨_, To.same (fun d y h2 h3 => ?_) hwf, hK _ (by omega)⟩
        rw [hsb d (by omega)]; exact hσb d y h3
      · simp -implicitDefEqProofs (disch := first | omega | (simp only [St.set_n, St.up_n, List.length_cons, List.length_nil]; omega)) only [go_sem, Nat.reduceAdd, Nat.reduceMul, Nat.reduceSub, Int.reduceAdd, Int.reduceMul, Int.reduceSub, Int.reduceNeg, Int.reduceToNat, q4, q13, hbx, hth, hlt, hsb', hbb, c0, h100]
        refine callF_wf (rising_of hv2' (by omega) fun vo sr hO2 hold2 hn2 hb2 hw2 => ?_)
        rw [← hodj] at hO2
        obtain ⟨Ao, co, rfl, _⟩ := hO2.is
        have hbir := (hold2 _ hbin).trans hbx
        simp -implicitDefEqProofs (disch := first | omega | (simp only [St.set_n, St.up_n, List.length_cons, List.length_nil]; omega)) only [go_sem, Nat.reduceAdd, Nat.reduceMul, Nat.reduceSub, Int.reduceAdd, Int.reduceMul, Int.reduceSub, Int.reduceNeg, Int.reduceToNat]
        refine callF_of (cell_new _ ?_)
        simp -implicitDefEqProofs (disch := first | omega | (simp only [St.set_n, St.up_n, List.length_cons, List.length_nil]; omega)) only [go_sem, Nat.reduceAdd, Nat.reduceMul, Nat.reduceSub, Int.reduceAdd, Int.reduceMul, Int.reduceSub, Int.reduceNeg, Int.reduceToNat, q7, q13, q4, q9, q8, q10, q11, q12]
        have hw6 : (((((sr.set sr.n (.raw (.cells #[.slice Ao (ods j).length co] 22 (0, 0)))).set (sr.n + 1) (.raw (.cells #[.int .i64 0, .int .i64 0] 52 (0, 0)))).set (sr.n + 1 + 1) (.raw (.cells #[.pointer (some ⟨sr.n + 1, 0, none⟩)] 30 (0, 0)))).set (sr.n + 1 + 1 + 1) (.raw (.cells #[.func (.func 9) #[] (xCaps q sr.n bi (sr.n + 1 + 1) (sr.n + 1 + 1 + 1))] 32 (0, 0)))).up (sr.n + 1 + 1 + 1 + 1)).wf B := by
          have h := set_wf1 (y := .raw (.cells #[.func (.func 9) #[] (xCaps q sr.n bi (sr.n + 1 + 1) (sr.n + 1 + 1 + 1))] 32 (0, 0))) (set_wf1 (y := .raw (.cells #[.pointer (some ⟨sr.n + 1, 0, none⟩)] 30 (0, 0))) (set_wf1 (y := .raw (.cells #[.int .i64 0, .int .i64 0] 52 (0, 0))) (set_wf1 (y := .raw (.cells #[.slice Ao (ods j).length co] 22 (0, 0))) hw2)))
          simp only [St.up_n] at h
          exact h
        have hk6 : ∀ c y, sr.m c = some y → (((((sr.set sr.n (.raw (.cells #[.slice Ao (ods j).length co] 22 (0, 0)))).set (sr.n + 1) (.raw (.cells #[.int .i64 0, .int .i64 0] 52 (0, 0)))).set (sr.n + 1 + 1) (.raw (.cells #[.pointer (some ⟨sr.n + 1, 0, none⟩)] 30 (0, 0)))).set (sr.n + 1 + 1 + 1) (.raw (.cells #[.func (.func 9) #[] (xCaps q sr.n bi (sr.n + 1 + 1) (sr.n + 1 + 1 + 1))] 32 (0, 0)))).up (sr.n + 1 + 1 + 1 + 1)).m c = some y := fun c y hx => by
          have := (hw2.2 _ _ hx).2
          simp -implicitDefEqProofs (disch := first | omega | (simp only [St.set_n, St.up_n, List.length_cons, List.length_nil]; omega)) only [go_sem, Nat.reduceAdd, Nat.reduceMul, Nat.reduceSub, Int.reduceAdd, Int.reduceMul, Int.reduceSub, Int.reduceNeg, Int.reduceToNat, hx]
        have e1 : (((((sr.set sr.n (.raw (.cells #[.slice Ao (ods j).length co] 22 (0, 0)))).set (sr.n + 1) (.raw (.cells #[.int .i64 0, .int .i64 0] 52 (0, 0)))).set (sr.n + 1 + 1) (.raw (.cells #[.pointer (some ⟨sr.n + 1, 0, none⟩)] 30 (0, 0)))).set (sr.n + 1 + 1 + 1) (.raw (.cells #[.func (.func 9) #[] (xCaps q sr.n bi (sr.n + 1 + 1) (sr.n + 1 + 1 + 1))] 32 (0, 0)))).up (sr.n + 1 + 1 + 1 + 1)).m sr.n = some (.raw (.cells #[.slice Ao (ods j).length co] 22 (0, 0))) := by simp -implicitDefEqProofs (disch := first | omega | (simp only [St.set_n, St.up_n, List.length_cons, List.length_nil]; omega)) only [go_sem, Nat.reduceAdd, Nat.reduceMul, Nat.reduceSub, Int.reduceAdd, Int.reduceMul, Int.reduceSub, Int.reduceNeg, Int.reduceToNat]
        have e2 : (((((sr.set sr.n (.raw (.cells #[.slice Ao (ods j).length co] 22 (0, 0)))).set (sr.n + 1) (.raw (.cells #[.int .i64 0, .int .i64 0] 52 (0, 0)))).set (sr.n + 1 + 1) (.raw (.cells #[.pointer (some ⟨sr.n + 1, 0, none⟩)] 30 (0, 0)))).set (sr.n + 1 + 1 + 1) (.raw (.cells #[.func (.func 9) #[] (xCaps q sr.n bi (sr.n + 1 + 1) (sr.n + 1 + 1 + 1))] 32 (0, 0)))).up (sr.n + 1 + 1 + 1 + 1)).m (sr.n + 1) = some (.raw (.cells #[.int .i64 0, .int .i64 0] 52 (0, 0))) := by simp -implicitDefEqProofs (disch := first | omega | (simp only [St.set_n, St.up_n, List.length_cons, List.length_nil]; omega)) only [go_sem, Nat.reduceAdd, Nat.reduceMul, Nat.reduceSub, Int.reduceAdd, Int.reduceMul, Int.reduceSub, Int.reduceNeg, Int.reduceToNat]
        have e3 : (((((sr.set sr.n (.raw (.cells #[.slice Ao (ods j).length co] 22 (0, 0)))).set (sr.n + 1) (.raw (.cells #[.int .i64 0, .int .i64 0] 52 (0, 0)))).set (sr.n + 1 + 1) (.raw (.cells #[.pointer (some ⟨sr.n + 1, 0, none⟩)] 30 (0, 0)))).set (sr.n + 1 + 1 + 1) (.raw (.cells #[.func (.func 9) #[] (xCaps q sr.n bi (sr.n + 1 + 1) (sr.n + 1 + 1 + 1))] 32 (0, 0)))).up (sr.n + 1 + 1 + 1 + 1)).m (sr.n + 1 + 1) = some (.raw (.cells #[.pointer (some ⟨sr.n + 1, 0, none⟩)] 30 (0, 0))) := by simp -implicitDefEqProofs (disch := first | omega | (simp only [St.set_n, St.up_n, List.length_cons, List.length_nil]; omega)) only [go_sem, Nat.reduceAdd, Nat.reduceMul, Nat.reduceSub, Int.reduceAdd, Int.reduceMul, Int.reduceSub, Int.reduceNeg, Int.reduceToNat]
        have e4 : (((((sr.set sr.n (.raw (.cells #[.slice Ao (ods j).length co] 22 (0, 0)))).set (sr.n + 1) (.raw (.cells #[.int .i64 0, .int .i64 0] 52 (0, 0)))).set (sr.n + 1 + 1) (.raw (.cells #[.pointer (some ⟨sr.n + 1, 0, none⟩)] 30 (0, 0)))).set (sr.n + 1 + 1 + 1) (.raw (.cells #[.func (.func 9) #[] (xCaps q sr.n bi (sr.n + 1 + 1) (sr.n + 1 + 1 + 1))] 32 (0, 0)))).up (sr.n + 1 + 1 + 1 + 1)).m (sr.n + 1 + 1 + 1) = some (.raw (.cells #[.func (.func 9) #[] (xCaps q sr.n bi (sr.n + 1 + 1) (sr.n + 1 + 1 + 1))] 32 (0, 0))) := by simp -implicitDefEqProofs (disch := first | omega | (simp only [St.set_n, St.up_n, List.length_cons, List.length_nil]; omega)) only [go_sem, Nat.reduceAdd, Nat.reduceMul, Nat.reduceSub, Int.reduceAdd, Int.reduceMul, Int.reduceSub, Int.reduceNeg, Int.reduceToNat]
        have en : (((((sr.set sr.n (.raw (.cells #[.slice Ao (ods j).length co] 22 (0, 0)))).set (sr.n + 1) (.raw (.cells #[.int .i64 0, .int .i64 0] 52 (0, 0)))).set (sr.n + 1 + 1) (.raw (.cells #[.pointer (some ⟨sr.n + 1, 0, none⟩)] 30 (0, 0)))).set (sr.n + 1 + 1 + 1) (.raw (.cells #[.func (.func 9) #[] (xCaps q sr.n bi (sr.n + 1 + 1) (sr.n + 1 + 1 + 1))] 32 (0, 0)))).up (sr.n + 1 + 1 + 1 + 1)).n = sr.n + 1 + 1 + 1 + 1 := rfl
        have hgo : ∀ (X : St → Prop), (∀ s6, s6.wf B → (∀ c y, sr.m c = some y → s6.m c = some y) → s6.m sr.n = some (.raw (.cells #[.slice Ao (ods j).length co] 22 (0, 0))) → s6.m (sr.n + 1) = some (.raw (.cells #[.int .i64 0, .int .i64 0] 52 (0, 0))) → s6.m (sr.n + 1 + 1) = some (.raw (.cells #[.pointer (some ⟨sr.n + 1, 0, none⟩)] 30 (0, 0))) → s6.m (sr.n + 1 + 1 + 1) = some (.raw (.cells #[.func (.func 9) #[] (xCaps q sr.n bi (sr.n + 1 + 1) (sr.n + 1 + 1 + 1))] 32 (0, 0))) → s6.n = sr.n + 1 + 1 + 1 + 1 → X s6) → X (((((sr.set sr.n (.raw (.cells #[.slice Ao (ods j).length co] 22 (0, 0)))).set (sr.n + 1) (.raw (.cells #[.int .i64 0, .int .i64 0] 52 (0, 0)))).set (sr.n + 1 + 1) (.raw (.cells #[.pointer (some ⟨sr.n + 1, 0, none⟩)] 30 (0, 0)))).set (sr.n + 1 + 1 + 1) (.raw (.cells #[.func (.func 9) #[] (xCaps q sr.n bi (sr.n + 1 + 1) (sr.n + 1 + 1 + 1))] 32 (0, 0)))).up (sr.n + 1 + 1 + 1 + 1)) := fun X h => h _ hw6 hk6 e1 e2 e3 e4 en
        refine hgo _ ?_
        clear hgo hw6 hk6 e1 e2 e3 e4 en
        intro s6 hw6 hk6 e1 e2 e3 e4 en
        have hbo : ∀ b', blk (.slice Ao (ods j).length co) = some b' → s.n ≤ b' ∧ b' < sr.n := fun b' hb' => by
          obtain ⟨o', ho'⟩ := hO2.at_ hb'
          exact ⟨hb2 b' hb', (hw2.2 _ _ ho').2⟩
        have hW6 : XW B q th.length ods th _ (updL cb j (sr.n + 1)) (orH (xN q j bi sr.n (sr.n + 1) (sr.n + 1 + 1) (sr.n + 1 + 1 + 1) (.slice Ao (ods j).length co) sr) H) := hW.grow hL (by omega) (by omega) (by omega) (by omega) (by omega) (fun b' hb' => by have := hbo b' hb'; omega)
        have hT6 : XT B q th.length ods (updL cb j (sr.n + 1)) (orH (xN q j bi sr.n (sr.n + 1) (sr.n + 1 + 1) (sr.n + 1 + 1 + 1) (.slice Ao (ods j).length co) sr) H) j sr.n bi (sr.n + 1 + 1) (sr.n + 1 + 1 + 1) (.slice Ao (ods j).length co) := XT.grow (by omega) hL hbi (by omega) (by omega) (by omega) (by omega) (fun b' hb' => by have := hbo b' hb'; omega) hO2
        have hL6 : XLow (orH (xN q j bi sr.n (sr.n + 1) (sr.n + 1 + 1) (sr.n + 1 + 1 + 1) (.slice Ao (ods j).length co) sr) H) (j + 1) s6.n := hL.grow (by omega) (by omega) (by omega) (by omega) (by omega) (fun b' hb' => by have := hbo b' hb'; omega) (by omega)
        have hk06 : ∀ c y, sb.m c = some y → s6.m c = some y := fun c y hx => by
          have h1 := (hwb.2 _ _ hx).2
          refine hk6 c y ?_
          rw [hold2 c (by omega), hsb c h1]; exact hx
        have hI6 : LgI (xL (B := B) th.length ods (orH (xN q j bi sr.n (sr.n + 1) (sr.n + 1 + 1) (sr.n + 1 + 1 + 1) (.slice Ao (ods j).length co) sr) H)) j (fun c' => c' < σ.n ∨ blk (.slice A j c) = some c') (xu0, xTs ods tm j) vs s6 := by
          have hIb : LgI (xL (B := B) th.length ods H) j (fun c' => c' < σ.n ∨ blk (.slice A j c) = some c') (xu0, xTs ods tm j) vs (s6.up s6.n) := hI.keep hk06 (by simp only [St.up_n]; omega)
          refine LgI.extN2 hI ?_ (fun t ht u a => xN_cs (ex_cs (by omega) u a)) hwb hk06 (by omega) ?_ ?_
          · intro u c hc
            cases hx : H u c with
            | none => rfl
            | some y =>
              have := hL.lt u c (by rw [hx]; simp)
              exact absurd (xN_low hbi (by omega) (by omega) (by omega) (by omega) (fun b' hb' => by have := hbo b' hb'; omega) this) hc
          · intro c hc
            rcases Nat.lt_or_ge c sb.n with h | h
            · exact absurd (xN_low hbi (by omega) (by omega) (by omega) (by omega) (fun b' hb' => by have := hbo b' hb'; omega) h) hc
            · exact h
          · intro c y hy
            unfold xN at hy
            split at hy
            · rename_i e; subst e; cases hy; exact hk6 _ _ hbir
            · split at hy
              · rename_i e; subst e; cases hy; exact e1
              · split at hy
                · rename_i e; subst e; cases hy; exact e2
                · split at hy
                  · rename_i e; subst e; cases hy; exact e3
                  · split at hy
                    · rename_i e; subst e; cases hy; exact e4
                    · split at hy
                      · exact hk6 _ _ hy
                      · cases hy
        refine callF_of (LgI.call hI6 hw6 (fun G' K' hE hK' => round_ok hW6 hT6 tm (by omega) _ G' _ _ K' hE hK') fun v7 s7 hI7 hk7 hn7 hw7 hv7 => ?_)
        rw [xTs_succ] at hI7
        simp -implicitDefEqProofs (disch := first | omega | (simp only [St.set_n, St.up_n, List.length_cons, List.length_nil]; omega)) only [go_sem, Nat.reduceAdd, Nat.reduceMul, Nat.reduceSub, Int.reduceAdd, Int.reduceMul, Int.reduceSub, Int.reduceNeg, Int.reduceToNat, hv7.one.1, hv7.one.2, q12]
        have hOs : ∀ b' o, blk (.slice A j c) = some b' → sb.m b' = some o → s7.m b' = some o := fun b' o hb' ho => hk7 b' _ (.inr hb') (hk06 _ _ ho)
        refine appE hw7 (hOw.keepR fun b' o hb' ho => hOs b' _ hb' ho) se28 kd28 zr34 rfl (by omega) (ys := [v7]) rfl (by simp [hv7.one.2]) (by omega) fun A' C' s8 hC' o8 heq hb8 hn8 hw8 => ?_
        have hI8 := Sys.inv_app (Y := lgSys (xL (B := B) th.length ods (orH (xN q j bi sr.n (sr.n + 1) (sr.n + 1 + 1) (sr.n + 1 + 1 + 1) (.slice Ao (ods j).length co) sr) H)) (j + 1)) (P := fun c => c < σ.n) (w := .slice A j c) (w' := .slice A' (j + 1) C') hI7 hw7 heq hb8 hn8 fun b' hb' => by
          obtain ⟨o, ho⟩ := o8.at_ hb'
          exact (hw8.2 _ _ ho).2
        have hbi8 : s8.m bi = _ := LgI.at hI8 (hT6.i _)
        have hbi8n := (hw8.2 _ _ hbi8).2
        simp -implicitDefEqProofs (disch := first | omega | (simp only [St.set_n, St.up_n, List.length_cons, List.length_nil]; omega)) only [go_sem, Nat.reduceAdd, Nat.reduceMul, Nat.reduceSub, Int.reduceAdd, Int.reduceMul, Int.reduceSub, Int.reduceNeg, Int.reduceToNat, q13, hbi8, hbi8n]
        refine ⟨th.length - (j + 1), by omega, _, To.refl _ _, j + 1, s8.n, A', C', rfl, by omega, ⟨by simp -implicitDefEqProofs (disch := first | omega | (simp only [St.set_n, St.up_n, List.length_cons, List.length_nil]; omega)) only [go_sem, Nat.reduceAdd, Nat.reduceMul, Nat.reduceSub, Int.reduceAdd, Int.reduceMul, Int.reduceSub, Int.reduceNeg, Int.reduceToNat, q0], by simp -implicitDefEqProofs (disch := first | omega | (simp only [St.set_n, St.up_n, List.length_cons, List.length_nil]; omega)) only [go_sem, Nat.reduceAdd, Nat.reduceMul, Nat.reduceSub, Int.reduceAdd, Int.reduceMul, Int.reduceSub, Int.reduceNeg, Int.reduceToNat, q4], by simp -implicitDefEqProofs (disch := first | omega | (simp only [St.set_n, St.up_n, List.length_cons, List.length_nil]; omega)) only [go_sem, Nat.reduceAdd, Nat.reduceMul, Nat.reduceSub, Int.reduceAdd, Int.reduceMul, Int.reduceSub, Int.reduceNeg, Int.reduceToNat, q7], by simp -implicitDefEqProofs (disch := first | omega | (simp only [St.set_n, St.up_n, List.length_cons, List.length_nil]; omega)) only [go_sem, Nat.reduceAdd, Nat.reduceMul, Nat.reduceSub, Int.reduceAdd, Int.reduceMul, Int.reduceSub, Int.reduceNeg, Int.reduceToNat, q8], by simp -implicitDefEqProofs (disch := first | omega | (simp only [St.set_n, St.up_n, List.length_cons, List.length_nil]; omega)) only [go_sem, Nat.reduceAdd, Nat.reduceMul, Nat.reduceSub, Int.reduceAdd, Int.reduceMul, Int.reduceSub, Int.reduceNeg, Int.reduceToNat, q9], by simp -implicitDefEqProofs (disch := first | omega | (simp only [St.set_n, St.up_n, List.length_cons, List.length_nil]; omega)) only [go_sem, Nat.reduceAdd, Nat.reduceMul, Nat.reduceSub, Int.reduceAdd, Int.reduceMul, Int.reduceSub, Int.reduceNeg, Int.reduceToNat, q10], by simp -implicitDefEqProofs (disch := first | omega | (simp only [St.set_n, St.up_n, List.length_cons, List.length_nil]; omega)) only [go_sem, Nat.reduceAdd, Nat.reduceMul, Nat.reduceSub, Int.reduceAdd, Int.reduceMul, Int.reduceSub, Int.reduceNeg, Int.reduceToNat, q11], by simp -implicitDefEqProofs (disch := first | omega | (simp only [St.set_n, St.up_n, List.length_cons, List.length_nil]; omega)) only [go_sem, Nat.reduceAdd, Nat.reduceMul, Nat.reduceSub, Int.reduceAdd, Int.reduceMul, Int.reduceSub, Int.reduceNeg, Int.reduceToNat], by simp -implicitDefEqProofs (disch := first | omega | (simp only [St.set_n, St.up_n, List.length_cons, List.length_nil]; omega)) only [go_sem, Nat.reduceAdd, Nat.reduceMul, Nat.reduceSub, Int.reduceAdd, Int.reduceMul, Int.reduceSub, Int.reduceNeg, Int.reduceToNat], by simp -implicitDefEqProofs (disch := first | omega | (simp only [St.set_n, St.up_n, List.length_cons, List.length_nil]; omega)) only [go_sem, Nat.reduceAdd, Nat.reduceMul, Nat.reduceSub, Int.reduceAdd, Int.reduceMul, Int.reduceSub, Int.reduceNeg, Int.reduceToNat, hd]⟩, ⟨⟨_, _, _, s8, hW6, ⟨fun u c hc => by have := hL6.lt u c hc; omega, hL6.cf⟩, hI8, hw8, fun c hc => ?_, Nat.le_refl _, by simp only [St.up_n, St.set_n]; omega, o8, fun c y hx => ?_, by omega, fun b'' hb'' => ?_⟩, ?_⟩⟩
        · simp -implicitDefEqProofs (disch := first | omega | (simp only [St.set_n, St.up_n, List.length_cons, List.length_nil]; omega)) only [go_sem, Nat.reduceAdd, Nat.reduceMul, Nat.reduceSub, Int.reduceAdd, Int.reduceMul, Int.reduceSub, Int.reduceNeg, Int.reduceToNat]
        · have h5 := (hwf.2 _ _ hx).2
          rw [heq c (by omega) fun e => by have := hAb c e; omega]
          exact hk7 c y (.inl h5) (hk06 _ _ (hσb c y hx))
        · rcases hb8 b'' hb'' with h | h
          · omega
          · exact hAb b'' h
        · simp -implicitDefEqProofs (disch := first | omega | (simp only [St.set_n, St.up_n, List.length_cons, List.length_nil]; omega)) only [go_sem, Nat.reduceAdd, Nat.reduceMul, Nat.reduceSub, Int.reduceAdd, Int.reduceMul, Int.reduceSub, Int.reduceNeg, Int.reduceToNat]
          simp
    · have hje : j = th.length := by omega
      subst hje
      simp -implicitDefEqProofs (disch := first | omega | (simp only [St.set_n, St.up_n, List.length_cons, List.length_nil]; omega)) only [go_sem, Nat.reduceAdd, Nat.reduceMul, Nat.reduceSub, Int.reduceAdd, Int.reduceMul, Int.reduceSub, Int.reduceNeg, Int.reduceToNat, q4, q13, hbx, hth, hlt]
      exact ⟨_, To.refl _ _, bi, A, c, ⟨by simp -implicitDefEqProofs (disch := first | omega | (simp only [St.set_n, St.up_n, List.length_cons, List.length_nil]; omega)) only [go_sem, Nat.reduceAdd, Nat.reduceMul, Nat.reduceSub, Int.reduceAdd, Int.reduceMul, Int.reduceSub, Int.reduceNeg, Int.reduceToNat, q0], by simp -implicitDefEqProofs (disch := first | omega | (simp only [St.set_n, St.up_n, List.length_cons, List.length_nil]; omega)) only [go_sem, Nat.reduceAdd, Nat.reduceMul, Nat.reduceSub, Int.reduceAdd, Int.reduceMul, Int.reduceSub, Int.reduceNeg, Int.reduceToNat, q4], by simp -implicitDefEqProofs (disch := first | omega | (simp only [St.set_n, St.up_n, List.length_cons, List.length_nil]; omega)) only [go_sem, Nat.reduceAdd, Nat.reduceMul, Nat.reduceSub, Int.reduceAdd, Int.reduceMul, Int.reduceSub, Int.reduceNeg, Int.reduceToNat, q7], by simp -implicitDefEqProofs (disch := first | omega | (simp only [St.set_n, St.up_n, List.length_cons, List.length_nil]; omega)) only [go_sem, Nat.reduceAdd, Nat.reduceMul, Nat.reduceSub, Int.reduceAdd, Int.reduceMul, Int.reduceSub, Int.reduceNeg, Int.reduceToNat, q8], by simp -implicitDefEqProofs (disch := first | omega | (simp only [St.set_n, St.up_n, List.length_cons, List.length_nil]; omega)) only [go_sem, Nat.reduceAdd, Nat.reduceMul, Nat.reduceSub, Int.reduceAdd, Int.reduceMul, Int.reduceSub, Int.reduceNeg, Int.reduceToNat, q9], by simp -implicitDefEqProofs (disch := first | omega | (simp only [St.set_n, St.up_n, List.length_cons, List.length_nil]; omega)) only [go_sem, Nat.reduceAdd, Nat.reduceMul, Nat.reduceSub, Int.reduceAdd, Int.reduceMul, Int.reduceSub, Int.reduceNeg, Int.reduceToNat, q10], by simp -implicitDefEqProofs (disch := first | omega | (simp only [St.set_n, St.up_n, List.length_cons, List.length_nil]; omega)) only [go_sem, Nat.reduceAdd, Nat.reduceMul, Nat.reduceSub, Int.reduceAdd, Int.reduceMul, Int.reduceSub, Int.reduceNeg, Int.reduceToNat, q11], by simp -implicitDefEqProofs (disch := first | omega | (simp only [St.set_n, St.up_n, List.length_cons, List.length_nil]; omega)) only [go_sem, Nat.reduceAdd, Nat.reduceMul, Nat.reduceSub, Int.reduceAdd, Int.reduceMul, Int.reduceSub, Int.reduceNeg, Int.reduceToNat, q12], by simp -implicitDefEqProofs (disch := first | omega | (simp only [St.set_n, St.up_n, List.length_cons, List.length_nil]; omega)) only [go_sem, Nat.reduceAdd, Nat.reduceMul, Nat.reduceSub, Int.reduceAdd, Int.reduceMul, Int.reduceSub, Int.reduceNeg, Int.reduceToNat, q13], by simp -implicitDefEqProofs (disch := first | omega | (simp only [St.set_n, St.up_n, List.length_cons, List.length_nil]; omega)) only [go_sem, Nat.reduceAdd, Nat.reduceMul, Nat.reduceSub, Int.reduceAdd, Int.reduceMul, Int.reduceSub, Int.reduceNeg, Int.reduceToNat, hd]⟩, ⟨⟨vs, H, cb, sb, hW, hL, hI, hwb, hsb, hbi, hnb, hOw, hσb, hσn, hAb⟩, hbx⟩⟩
  · rintro e s hws ⟨bi, A, c, ⟨q0, q4, q7, q8, q9, q10, q11, q12, q13, hd⟩, ⟨⟨vs, H, cb, sb, hW, hL, hI, hwb, hsb, hbi, hnb, hOw, hσb, hσn, hAb⟩, hbx⟩⟩
    refine SemS.seqw fun _ => ?_
    simp -implicitDefEqProofs (disch := first | omega | (simp only [St.set_n, St.up_n, List.length_cons, List.length_nil]; omega)) only [go_sem, Nat.reduceAdd, Nat.reduceMul, Nat.reduceSub, Int.reduceAdd, Int.reduceMul, Int.reduceSub, Int.reduceNeg, Int.reduceToNat, q0, q12]
    have hIs : (lgSys (xL (B := B) th.length ods H) th.length).Inv (fun c' => c' < σ.n ∨ blk (.slice A th.length c) = some c') (xu0, xTs ods tm th.length) vs s := (lgSys (xL (B := B) th.length ods H) th.length).stable hI (fun c y _ hx => by rw [hsb c (hwb.2 _ _ hx).2]; exact hx) hnb
    have hOs : Own s 34 1 vs th.length (.slice A th.length c) := hOw.keepR fun b' o hb' ho => by rw [hsb b' (hwb.2 _ _ ho).2]; exact ho
    have hvl : vs.length = th.length := hI.len
    obtain ⟨R, hR⟩ : ∃ R, Sys.loopA (Y := lgSys (xL (B := B) th.length ods H) th.length) 70000 (Sys.picksA ⟨(xu0, xTs ods tm th.length), [], 0⟩ picks) = R := ⟨_, rfl⟩
    obtain ⟨r1, r2, r3, r4⟩ := ex_run (B := B) (H := H) hoX (by omega) htm6 hol (fun t ht => by unfold xTs; rw [if_pos ht]) (fun i => rfl) (fun t => rfl) rfl rfl hR
    refine callF_wf (m_run (Y := lgSys (xL (B := B) th.length ods H) th.length) hIs (show th.length ≤ 1000 by omega) (by omega) ⟨⟨A, c, by rw [hvl]⟩, by rw [hvl]; exact hOs.fc⟩ (fun s' hs' => by rw [hvl]; exact (hOs.keepR fun b' o hb' ho => by rw [hs' b' (hws.2 _ _ ho).2]; exact ho).fc) hp' hR fun mv vs' s4 om hI4 hn4 hk4 hws4 => ?_)
    rw [r1]
    obtain ⟨Am, cm, rfl, _⟩ := om.is
    have x1 : s4.m q.bbad = _ := LgI.at (H := H) hI4 (hW.bad _)
    have x2 : s4.m q.bdn = _ := LgI.at (H := H) hI4 (hW.dn _)
    have x3 : s4.m q.bth = _ := LgI.at (H := H) hI4 (hW.thb _)
    have x4 : s4.m q.bg = _ := LgI.at (H := H) hI4 (hW.gb _)
    have x5 : s4.m q.g = _ := LgI.at (H := H) hI4 (hW.gr _)
    have x6 : s4.m q.b = _ := LgI.at (H := H) hI4 (hW.lk _)
    rw [r2] at x1
    rw [r3] at x2
    have hσ4 : ∀ c y, σ.m c = some y → s4.m c = some y := fun c y hx => by
      have h5 := (hwf.2 _ _ hx).2
      exact hk4 c y (.inl h5) (by rw [hsb c (by omega)]; exact hσb c y hx)
    simp -implicitDefEqProofs (disch := first | omega | (simp only [St.set_n, St.up_n, List.length_cons, List.length_nil]; omega)) only [go_sem, Nat.reduceAdd, Nat.reduceMul, Nat.reduceSub, Int.reduceAdd, Int.reduceMul, Int.reduceSub, Int.reduceNeg, Int.reduceToNat]
    have hk5 : ∀ c y, s4.m c = some y → ((s4.set s4.n (.raw (.cells #[.slice Am R.1.mv.length cm, .int .i64 R.1.ca, .int .i64 0] 44 (0, 0)))).up (s4.n + 1)).m c = some y := fun c y hx => by
      have := (hws4.2 _ _ hx).2
      simp -implicitDefEqProofs (disch := first | omega | (simp only [St.set_n, St.up_n, List.length_cons, List.length_nil]; omega)) only [go_sem, Nat.reduceAdd, Nat.reduceMul, Nat.reduceSub, Int.reduceAdd, Int.reduceMul, Int.reduceSub, Int.reduceNeg, Int.reduceToNat, hx]
    have ht5 : ((s4.set s4.n (.raw (.cells #[.slice Am R.1.mv.length cm, .int .i64 R.1.ca, .int .i64 0] 44 (0, 0)))).up (s4.n + 1)).m s4.n = some (.raw (.cells #[.slice Am R.1.mv.length cm, .int .i64 R.1.ca, .int .i64 0] 44 (0, 0))) := by simp -implicitDefEqProofs (disch := first | omega | (simp only [St.set_n, St.up_n, List.length_cons, List.length_nil]; omega)) only [go_sem, Nat.reduceAdd, Nat.reduceMul, Nat.reduceSub, Int.reduceAdd, Int.reduceMul, Int.reduceSub, Int.reduceNeg, Int.reduceToNat]
    have hn5 : s4.n ≤ ((s4.set s4.n (.raw (.cells #[.slice Am R.1.mv.length cm, .int .i64 R.1.ca, .int .i64 0] 44 (0, 0)))).up (s4.n + 1)).n := by simp only [St.up_n]; omega
    generalize (s4.set s4.n (.raw (.cells #[.slice Am R.1.mv.length cm, .int .i64 R.1.ca, .int .i64 0] 44 (0, 0)))).up (s4.n + 1) = s5 at hk5 ht5 hn5 ⊢
    have y1 := hk5 _ _ x1
    have y2 := hk5 _ _ x2
    have y3 := hk5 _ _ x3
    have y4 := hk5 _ _ x4
    have y5 := hk5 _ _ x5
    have y6 := hk5 _ _ x6
    have hm48 : tm * th.length ≤ 6 * 8 := Nat.mul_le_mul htm6 (by omega)
    have hmul : IntKind.i64.wrap ((tm : Int) * th.length) = (tm : Int) * th.length := wrap_i64 (by rw [← Int.natCast_mul]; omega)
    refine SemS.seqw fun _ => ?_
    simp -implicitDefEqProofs (disch := first | omega | (simp only [St.set_n, St.up_n, List.length_cons, List.length_nil]; omega)) only [go_sem, Nat.reduceAdd, Nat.reduceMul, Nat.reduceSub, Int.reduceAdd, Int.reduceMul, Int.reduceSub, Int.reduceNeg, Int.reduceToNat, q4, q9, q10, q11, y1, y2, y3, ht5, hmul]
    refine SemS.seq (fun e s' => s' = s5 ∧ e.d = []) ?_ ?_
    · refine SemS.seqw fun _ => ?_
      simp -implicitDefEqProofs (disch := first | omega | (simp only [St.set_n, St.up_n, List.length_cons, List.length_nil]; omega)) only [go_sem, Nat.reduceAdd, Nat.reduceMul, Nat.reduceSub, Int.reduceAdd, Int.reduceMul, Int.reduceSub, Int.reduceNeg, Int.reduceToNat]
      refine SemS.block (SemS.loop (fun m e s' => ∃ i : Nat, m = 8 - i ∧ i ≤ 8 ∧ ExG q i e ∧ s' = s5) 8 ?_ ?_)
      · exact ⟨0, by omega, by omega, ⟨by simp -implicitDefEqProofs (disch := first | omega | (simp only [St.set_n, St.up_n, List.length_cons, List.length_nil]; omega)) only [go_sem, Nat.reduceAdd, Nat.reduceMul, Nat.reduceSub, Int.reduceAdd, Int.reduceMul, Int.reduceSub, Int.reduceNeg, Int.reduceToNat, q7], by simp -implicitDefEqProofs (disch := first | omega | (simp only [St.set_n, St.up_n, List.length_cons, List.length_nil]; omega)) only [go_sem, Nat.reduceAdd, Nat.reduceMul, Nat.reduceSub, Int.reduceAdd, Int.reduceMul, Int.reduceSub, Int.reduceNeg, Int.reduceToNat]; rfl, by simp -implicitDefEqProofs (disch := first | omega | (simp only [St.set_n, St.up_n, List.length_cons, List.length_nil]; omega)) only [go_sem, Nat.reduceAdd, Nat.reduceMul, Nat.reduceSub, Int.reduceAdd, Int.reduceMul, Int.reduceSub, Int.reduceNeg, Int.reduceToNat, hd]⟩, rfl⟩
      rintro m e' s' hws' ⟨i, hm, hi, ⟨z7, z18, zd⟩, rfl⟩
      refine SemS.wp fun _ => ?_
      by_cases hlt : (i : Int) < 8
      · have hG : IsGroup s' q.g q.b (lksA 8 R.1.x.1.l) := .inr ⟨by rw [lksA_len]; exact y5, y6⟩
        have hi8 : i < 8 := by omega
        have ho := r4 i hi8
        obtain ⟨c0', _, _⟩ := lk_cells (lksA_get (l := R.1.x.1.l) hi8)
        rw [ho] at c0'
        simp -implicitDefEqProofs (disch := first | omega | (simp only [St.set_n, St.up_n, List.length_cons, List.length_nil]; omega)) only [go_sem, Nat.reduceAdd, Nat.reduceMul, Nat.reduceSub, Int.reduceAdd, Int.reduceMul, Int.reduceSub, Int.reduceNeg, Int.reduceToNat, z7, z18, hlt, y4]
        refine callF_of (group_at hG (i := i) (by rw [lksA_len]; exact hi8) ?_)
        simp -implicitDefEqProofs (disch := first | omega | (simp only [St.set_n, St.up_n, List.length_cons, List.length_nil]; omega)) only [go_sem, Nat.reduceAdd, Nat.reduceMul, Nat.reduceSub, Int.reduceAdd, Int.reduceMul, Int.reduceSub, Int.reduceNeg, Int.reduceToNat, z7, z18, hlt, y4]
        refine callF_of (group_at hG (i := i) (by rw [lksA_len]; exact hi8) ?_)
        simp -implicitDefEqProofs (disch := first | omega | (simp only [St.set_n, St.up_n, List.length_cons, List.length_nil]; omega)) only [go_sem, Nat.reduceAdd, Nat.reduceMul, Nat.reduceSub, Int.reduceAdd, Int.reduceMul, Int.reduceSub, Int.reduceNeg, Int.reduceToNat, z7, z18, hlt, y4]
        refine callF_of (lock_owner (x := 0) y6 c0' ?_)
        simp -implicitDefEqProofs (disch := first | omega | (simp only [St.set_n, St.up_n, List.length_cons, List.length_nil]; omega)) only [go_sem, Nat.reduceAdd, Nat.reduceMul, Nat.reduceSub, Int.reduceAdd, Int.reduceMul, Int.reduceSub, Int.reduceNeg, Int.reduceToNat, z7, z18, hlt, y4]
        exact ⟨8 - (i + 1), by omega, _, To.refl _ _, i + 1, rfl, by omega, ⟨by simp -implicitDefEqProofs (disch := first | omega | (simp only [St.set_n, St.up_n, List.length_cons, List.length_nil]; omega)) only [go_sem, Nat.reduceAdd, Nat.reduceMul, Nat.reduceSub, Int.reduceAdd, Int.reduceMul, Int.reduceSub, Int.reduceNeg, Int.reduceToNat, z7], by simp -implicitDefEqProofs (disch := first | omega | (simp only [St.set_n, St.up_n, List.length_cons, List.length_nil]; omega)) only [go_sem, Nat.reduceAdd, Nat.reduceMul, Nat.reduceSub, Int.reduceAdd, Int.reduceMul, Int.reduceSub, Int.reduceNeg, Int.reduceToNat]; rfl, by simp -implicitDefEqProofs (disch := first | omega | (simp only [St.set_n, St.up_n, List.length_cons, List.length_nil]; omega)) only [go_sem, Nat.reduceAdd, Nat.reduceMul, Nat.reduceSub, Int.reduceAdd, Int.reduceMul, Int.reduceSub, Int.reduceNeg, Int.reduceToNat, zd]⟩, rfl⟩
      · simp -implicitDefEqProofs (disch := first | omega | (simp only [St.set_n, St.up_n, List.length_cons, List.length_nil]; omega)) only [go_sem, Nat.reduceAdd, Nat.reduceMul, Nat.reduceSub, Int.reduceAdd, Int.reduceMul, Int.reduceSub, Int.reduceNeg, Int.reduceToNat, z18, hlt]
        exact ⟨_, To.refl _ _, rfl, by simp -implicitDefEqProofs (disch := first | omega | (simp only [St.set_n, St.up_n, List.length_cons, List.length_nil]; omega)) only [go_sem, Nat.reduceAdd, Nat.reduceMul, Nat.reduceSub, Int.reduceAdd, Int.reduceMul, Int.reduceSub, Int.reduceNeg, Int.reduceToNat, zd]⟩
    · rintro e' s' hws' ⟨rfl, zd⟩
      refine SemS.wp fun _ => ?_
      simp -implicitDefEqProofs (disch := first | omega | (simp only [St.set_n, St.up_n, List.length_cons, List.length_nil]; omega)) only [go_sem, Nat.reduceAdd, Nat.reduceMul, Nat.reduceSub, Int.reduceAdd, Int.reduceMul, Int.reduceSub, Int.reduceNeg, Int.reduceToNat, zd]
      exact ⟨_, To.same (fun d y h2 h3 => hk5 _ _ (hσ4 d y h3)) hwf, hK _ (by omega)⟩
end
end Go.Proofs.Ytdbgeahmhfocaaa
