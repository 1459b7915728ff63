/- A new core: its contract, by a walk. -/
import Derived.Test.YtdbgeahmhfocaaaGreatEpo
namespace Go.Proofs.YtdbgeahmhfocaaaGreat
set_option linter.unusedSimpArgs false
set_option linter.unusedVariables false
set_option maxRecDepth 100000
open Go Go.RowKit
section
variable {B : World} {σ : St} {K : Value → St → Prop}
def coreN (v : Int) : Nat := (max (min v 8) 0).toNat
def roomN (v : Int) : Nat := (max (min v 16) 1).toNat
structure CnF (c : Nat) (subs cap : Int) (e : Fr) : Prop where
  v0 : e.v 0 = .int .i64 subs
  v1 : e.v 1 = .int .i64 cap
  v5 : e.v 5 = .pointer (some ⟨c, 0, none⟩)
  d : e.d = []
structure CnS (τ : St) (c e p g ro : Nat) (s : St) : Prop where
  core : ∃ a0 a1 a2 a3, s.m c = some (.raw (.cells #[.pointer (some ⟨e, 0, none⟩), .pointer (some ⟨p, 0, none⟩), .pointer (some ⟨g, 0, none⟩), .pointer (some ⟨ro, 0, none⟩), .pointer a0, .pointer a1, .pointer a2, .pointer a3, .slice none 0 0, .int .i64 0] 87 (0, 0)))
  keep : ∀ x, x < c → x ≠ p → s.m x = τ.m x
  n : c < s.n
def rgP (rr : Nat → Nat) (i : Nat) : List Value := (List.range i).map fun j => .pointer (some ⟨rr j, 0, none⟩)
structure CnR (τ : St) (c e p g ro i rn : Nat) (s : St) (rr rb : Nat → Nat) (w : Value) : Prop where
  core : ∃ a0 a1 a2 a3, s.m c = some (.raw (.cells #[.pointer (some ⟨e, 0, none⟩), .pointer (some ⟨p, 0, none⟩), .pointer (some ⟨g, 0, none⟩), .pointer (some ⟨ro, 0, none⟩), .pointer a0, .pointer a1, .pointer a2, .pointer a3, w, .int .i64 0] 87 (0, 0)))
  keep : ∀ x, x < c → x ≠ p → s.m x = τ.m x
  n : c < s.n
  own : Own s 100 1 (rgP rr i) i w
  ring : ∀ j, j < i → IsRing s (rr j) (rb j) rn [] 0 0
  ord : ∀ j, j < i → c < rb j ∧ rr j = rb j + 1 ∧ ∀ k, k < j → rr k < rb j
  hb : ∀ b, blk w = some b → c < b ∧ ∀ j, j < i → b ≠ rr j ∧ b ≠ rb j
theorem isRing_keep {s s' : St} {r b n G : Nat} {L : List Mg} {D : Int} (h : IsRing s r b n L G D) (h1 : s'.m r = s.m r) (h2 : s'.m b = s.m b) : IsRing s' r b n L G D :=
  ⟨h.ne, h.pos, h.big, h.full, h.low, h1.trans h.root, h2.trans h.row⟩
theorem rgP_succ {rr : Nat → Nat} {i x : Nat} : rgP rr i ++ [.pointer (some ⟨x, 0, none⟩)] = rgP (updL rr i x) (i + 1) := by
  unfold rgP
  rw [List.range_succ, List.map_append]
  congr 1
  · refine List.map_congr_left fun j hj => ?_
    rw [updL_ne (by have := List.mem_range.1 hj; omega)]
  · simp [updL_eq]
structure CB where
  c : Nat
  g : Nat
  b : Nat
  e : Nat
  p : Nat
  ro : Nat
/-- A new core in memory. -/
structure NewI (σ : St) (q : CB) (nr rn : Nat) (s : St) (rr rb : Nat → Nat) (w : Value) : Prop where
  r : ∃ τ, CnR τ q.c q.e q.p q.g q.ro nr rn s rr rb w
  n : σ.n ≤ s.n
  keep : ∀ x y, σ.m x = some y → s.m x = some y
  ep : s.m q.e = some (.comp (EpR { now := 0, pin := List.replicate 64 (-1), l0 := [], l1 := [], l2 := [] } q.e))
  gr : s.m q.g = some (.raw (.cells #[.slice (some ⟨q.b, 0, none⟩) (12 : Nat) (12 : Nat)] 138 (0, 0)))
  lk : s.m q.b = some (.raw (.cells (flat fLk (List.replicate 12 (0, 0, 0))).toArray 168 (0, 0)))
  le : σ.n ≤ q.e ∧ q.e < q.c
  lg : σ.n ≤ q.g ∧ q.g < q.c
  lb : σ.n ≤ q.b ∧ q.b < q.c
theorem core_new {subs cap : Int} (hK : ∀ q rr rb w τ, NewI σ q (coreN subs) (roomN cap) τ rr rb w → τ.wf B → K (.pointer (some ⟨q.c, 0, none⟩)) τ) : Fn Tryz.prog B 7 #[.int .i64 subs, .int .i64 cap] σ K := by
  refine Fn.ofS is7 (by simp) fun hwf => ?_
  have hB := hwf.1
  simp only [b7, Tryz.f7, Option.getD_some]
  refine SemS.seqw fun _ => ?_
  simp -implicitDefEqProofs (disch := first | omega | (simp only [St.set_n, St.up_n, List.length_cons, List.length_nil]; omega)) only [go_sem, Nat.reduceAdd, Nat.reduceMul, Nat.reduceSub, Int.reduceAdd, Int.reduceMul, Int.reduceSub, Int.reduceNeg, Int.reduceToNat]
  refine SemS.seqw fun _ => ?_
  simp -implicitDefEqProofs (disch := first | omega | (simp only [St.set_n, St.up_n, List.length_cons, List.length_nil]; omega)) only [go_sem, Nat.reduceAdd, Nat.reduceMul, Nat.reduceSub, Int.reduceAdd, Int.reduceMul, Int.reduceSub, Int.reduceNeg, Int.reduceToNat]
  refine callF_wf (ep_new (th := 64) (n := 64) (by omega) fun k1 hk1 hw1 => ?_)
  simp -implicitDefEqProofs (disch := first | omega | (simp only [St.set_n, St.up_n, List.length_cons, List.length_nil]; omega)) only [go_sem, Nat.reduceAdd, Nat.reduceMul, Nat.reduceSub, Int.reduceAdd, Int.reduceMul, Int.reduceSub, Int.reduceNeg, Int.reduceToNat]
  refine callF_wf (pool_new (lim := 65536) (lim' := 65536) (by omega) fun hw2 => ?_)
  simp -implicitDefEqProofs (disch := first | omega | (simp only [St.set_n, St.up_n, List.length_cons, List.length_nil]; omega)) only [go_sem, Nat.reduceAdd, Nat.reduceMul, Nat.reduceSub, Int.reduceAdd, Int.reduceMul, Int.reduceSub, Int.reduceNeg, Int.reduceToNat]
  refine callF_wf (locks fun g τ hg hgn hgr hold hne hwτ => ?_)
  have h1 : groupN 12 = 12 := rfl
  rw [h1] at hgr hne
  have hne := hne.resolve_left (by omega)
  obtain ⟨hg1, hg2⟩ := hgr.resolve_left fun h => by cases h.1
  have hpn : k1 < τ.n := by have := hold k1 _ (by simp only [St.up_n]; omega) (by simp -implicitDefEqProofs (disch := first | omega | (simp only [St.set_n, St.up_n, List.length_cons, List.length_nil]; omega)) only [go_sem, Nat.reduceAdd, Nat.reduceMul, Nat.reduceSub, Int.reduceAdd, Int.reduceMul, Int.reduceSub, Int.reduceNeg, Int.reduceToNat]; rfl); have := (hwτ.2 _ _ this).2; omega
  have hmp : τ.m k1 = some (.raw (.cells #[.slice none 0 0, .slice none 0 0, .int .i64 65536] 135 (0, 0))) := hold k1 _ (by simp only [St.up_n]; omega) (by simp -implicitDefEqProofs (disch := first | omega | (simp only [St.set_n, St.up_n, List.length_cons, List.length_nil]; omega)) only [go_sem, Nat.reduceAdd, Nat.reduceMul, Nat.reduceSub, Int.reduceAdd, Int.reduceMul, Int.reduceSub, Int.reduceNeg, Int.reduceToNat])
  have hme : τ.m σ.n = some (.comp (EpR { now := 0, pin := List.replicate 64 (-1), l0 := [], l1 := [], l2 := [] } σ.n)) := hold σ.n _ (by simp only [St.up_n]; omega) (by simp -implicitDefEqProofs (disch := first | omega | (simp only [St.set_n, St.up_n, List.length_cons, List.length_nil]; omega)) only [go_sem, Nat.reduceAdd, Nat.reduceMul, Nat.reduceSub, Int.reduceAdd, Int.reduceMul, Int.reduceSub, Int.reduceNeg, Int.reduceToNat])
  have hgn' := (hwτ.2 _ _ hg1).2
  have hbn' := (hwτ.2 _ _ hg2).2
  simp only [St.up_n] at hg2 hgn hg hbn' hne hg1
  have hσ : ∀ c y, σ.m c = some y → τ.m c = some y := fun c y hc => by
    have := (hwf.2 _ _ hc).2
    exact hold c y (by simp only [St.up_n]; omega) (by simp -implicitDefEqProofs (disch := first | omega | (simp only [St.set_n, St.up_n, List.length_cons, List.length_nil]; omega)) only [go_sem, Nat.reduceAdd, Nat.reduceMul, Nat.reduceSub, Int.reduceAdd, Int.reduceMul, Int.reduceSub, Int.reduceNeg, Int.reduceToNat, hc])
  simp -implicitDefEqProofs (disch := first | omega | (simp only [St.set_n, St.up_n, List.length_cons, List.length_nil]; omega)) only [go_sem, Nat.reduceAdd, Nat.reduceMul, Nat.reduceSub, Int.reduceAdd, Int.reduceMul, Int.reduceSub, Int.reduceNeg, Int.reduceToNat]
  refine SemS.seqw fun _ => ?_
  simp -implicitDefEqProofs (disch := first | omega | (simp only [St.set_n, St.up_n, List.length_cons, List.length_nil]; omega)) only [go_sem, Nat.reduceAdd, Nat.reduceMul, Nat.reduceSub, Int.reduceAdd, Int.reduceMul, Int.reduceSub, Int.reduceNeg, Int.reduceToNat]
  refine callF_wf (pool_take (xi := 0) (p := k1) (lim := 65536) rfl (by simp -implicitDefEqProofs (disch := first | omega | (simp only [St.set_n, St.up_n, List.length_cons, List.length_nil]; omega)) only [go_sem, Nat.reduceAdd, Nat.reduceMul, Nat.reduceSub, Int.reduceAdd, Int.reduceMul, Int.reduceSub, Int.reduceNeg, Int.reduceToNat, hmp]) (by omega) fun τ2 hn2 hk2 hw2' => ?_)
  simp only [St.up_n] at hn2 hk2
  have hc2 : τ2.m τ.n = some (.raw (.cells #[.pointer (some ⟨σ.n, 0, none⟩), .pointer (some ⟨k1, 0, none⟩), .pointer (some ⟨g, 0, none⟩), .pointer none, .pointer none, .pointer none, .pointer none, .pointer none, .slice none 0 0, .int .i64 0] 87 (0, 0))) := by
    rw [hk2 _ (by omega) (by omega)]
    simp -implicitDefEqProofs (disch := first | omega | (simp only [St.set_n, St.up_n, List.length_cons, List.length_nil]; omega)) only [go_sem, Nat.reduceAdd, Nat.reduceMul, Nat.reduceSub, Int.reduceAdd, Int.reduceMul, Int.reduceSub, Int.reduceNeg, Int.reduceToNat]
  have hk2' : ∀ c, c < τ.n → c ≠ k1 → τ2.m c = τ.m c := fun c hc hcp => by
    rw [hk2 c (by omega) hcp]
    simp -implicitDefEqProofs (disch := first | omega | (simp only [St.set_n, St.up_n, List.length_cons, List.length_nil]; omega)) only [go_sem, Nat.reduceAdd, Nat.reduceMul, Nat.reduceSub, Int.reduceAdd, Int.reduceMul, Int.reduceSub, Int.reduceNeg, Int.reduceToNat]
  simp -implicitDefEqProofs (disch := first | omega | (simp only [St.set_n, St.up_n, List.length_cons, List.length_nil]; omega)) only [go_sem, Nat.reduceAdd, Nat.reduceMul, Nat.reduceSub, Int.reduceAdd, Int.reduceMul, Int.reduceSub, Int.reduceNeg, Int.reduceToNat]
  refine SemS.seqw fun _ => ?_
  simp -implicitDefEqProofs (disch := first | omega | (simp only [St.set_n, St.up_n, List.length_cons, List.length_nil]; omega)) only [go_sem, Nat.reduceAdd, Nat.reduceMul, Nat.reduceSub, Int.reduceAdd, Int.reduceMul, Int.reduceSub, Int.reduceNeg, Int.reduceToNat]
  refine callF_wf (cellR_new fun hw3 => ?_)
  simp -implicitDefEqProofs (disch := first | omega | (simp only [St.set_n, St.up_n, List.length_cons, List.length_nil]; omega)) only [go_sem, Nat.reduceAdd, Nat.reduceMul, Nat.reduceSub, Int.reduceAdd, Int.reduceMul, Int.reduceSub, Int.reduceNeg, Int.reduceToNat, hc2]
  refine SemS.seq (fun e s => CnF τ.n subs cap e ∧ CnS τ τ.n σ.n k1 g (τ2.n + 1) s) ?_ ?_
  · refine SemS.seqw fun _ => ?_
    simp -implicitDefEqProofs (disch := first | omega | (simp only [St.set_n, St.up_n, List.length_cons, List.length_nil]; omega)) only [go_sem, Nat.reduceAdd, Nat.reduceMul, Nat.reduceSub, Int.reduceAdd, Int.reduceMul, Int.reduceSub, Int.reduceNeg, Int.reduceToNat]
    refine SemS.block (SemS.loop (fun m e s => ∃ i : Nat, m = 4 - i ∧ i ≤ 4 ∧ e.v 34 = .int .i64 i ∧ CnF τ.n subs cap e ∧ CnS τ τ.n σ.n k1 g (τ2.n + 1) s) 4 ?_ ?_)
    · refine ⟨0, by omega, by omega, by first | (simp -implicitDefEqProofs (disch := first | omega | (simp only [St.set_n, St.up_n, List.length_cons, List.length_nil]; omega)) only [go_sem, Nat.reduceAdd, Nat.reduceMul, Nat.reduceSub, Int.reduceAdd, Int.reduceMul, Int.reduceSub, Int.reduceNeg, Int.reduceToNat]; done) | (simp -implicitDefEqProofs (disch := first | omega | (simp only [St.set_n, St.up_n, List.length_cons, List.length_nil]; omega)) only [go_sem, Nat.reduceAdd, Nat.reduceMul, Nat.reduceSub, Int.reduceAdd, Int.reduceMul, Int.reduceSub, Int.reduceNeg, Int.reduceToNat]; rfl), ⟨by simp -implicitDefEqProofs (disch := first | omega | (simp only [St.set_n, St.up_n, List.length_cons, List.length_nil]; omega)) only [go_sem, Nat.reduceAdd, Nat.reduceMul, Nat.reduceSub, Int.reduceAdd, Int.reduceMul, Int.reduceSub, Int.reduceNeg, Int.reduceToNat], by simp -implicitDefEqProofs (disch := first | omega | (simp only [St.set_n, St.up_n, List.length_cons, List.length_nil]; omega)) only [go_sem, Nat.reduceAdd, Nat.reduceMul, Nat.reduceSub, Int.reduceAdd, Int.reduceMul, Int.reduceSub, Int.reduceNeg, Int.reduceToNat], by simp -implicitDefEqProofs (disch := first | omega | (simp only [St.set_n, St.up_n, List.length_cons, List.length_nil]; omega)) only [go_sem, Nat.reduceAdd, Nat.reduceMul, Nat.reduceSub, Int.reduceAdd, Int.reduceMul, Int.reduceSub, Int.reduceNeg, Int.reduceToNat], by simp -implicitDefEqProofs (disch := first | omega | (simp only [St.set_n, St.up_n, List.length_cons, List.length_nil]; omega)) only [go_sem, Nat.reduceAdd, Nat.reduceMul, Nat.reduceSub, Int.reduceAdd, Int.reduceMul, Int.reduceSub, Int.reduceNeg, Int.reduceToNat]⟩, ⟨⟨none, none, none, none, by simp -implicitDefEqProofs (disch := first | omega | (simp only [St.set_n, St.up_n, List.length_cons, List.length_nil]; omega)) only [go_sem, Nat.reduceAdd, Nat.reduceMul, Nat.reduceSub, Int.reduceAdd, Int.reduceMul, Int.reduceSub, Int.reduceNeg, Int.reduceToNat]⟩, fun x hx hxp => ?_, by first | (simp -implicitDefEqProofs (disch := first | omega | (simp only [St.set_n, St.up_n, List.length_cons, List.length_nil]; omega)) only [go_sem, Nat.reduceAdd, Nat.reduceMul, Nat.reduceSub, Int.reduceAdd, Int.reduceMul, Int.reduceSub, Int.reduceNeg, Int.reduceToNat]; done) | (simp -implicitDefEqProofs (disch := first | omega | (simp only [St.set_n, St.up_n, List.length_cons, List.length_nil]; omega)) only [go_sem, Nat.reduceAdd, Nat.reduceMul, Nat.reduceSub, Int.reduceAdd, Int.reduceMul, Int.reduceSub, Int.reduceNeg, Int.reduceToNat]; omega)⟩⟩
      have h2 := hk2' x hx hxp
      simp -implicitDefEqProofs (disch := first | omega | (simp only [St.set_n, St.up_n, List.length_cons, List.length_nil]; omega)) only [go_sem, Nat.reduceAdd, Nat.reduceMul, Nat.reduceSub, Int.reduceAdd, Int.reduceMul, Int.reduceSub, Int.reduceNeg, Int.reduceToNat, h2]
    rintro m e s hws ⟨i, hm, hi, q34, ⟨q0, q1, q5, hd⟩, ⟨⟨a0, a1, a2, a3, hc⟩, hk, hn⟩⟩
    refine SemS.wp fun _ => ?_
    by_cases hlt : (i : Int) < 4
    · have hi4 : i = 0 ∨ i = 1 ∨ i = 2 ∨ i = 3 := by omega
      rcases hi4 with rfl | rfl | rfl | rfl
      · have hcn := (hws.2 _ _ hc).2
        simp -implicitDefEqProofs (disch := first | omega | (simp only [St.set_n, St.up_n, List.length_cons, List.length_nil]; omega)) only [go_sem, Nat.reduceAdd, Nat.reduceMul, Nat.reduceSub, Int.reduceAdd, Int.reduceMul, Int.reduceSub, Int.reduceNeg, Int.reduceToNat, q34, q0, q1, q5]
        refine effD_plan [0, 0, 0, 4, 12, 1, 33, 127, 255] [0, 1, 2, 5, 6, 7] (.eag 0 (.eag 1 (.eag 2 (.eag 5 (.eag 6 (.alt 3 [] (.alt 4 [] (.eag 7 (.alt 8 [] .fin .stop)) .stop) .stop)))))) (by kernel_rfl) ?_
        simp -implicitDefEqProofs (disch := first | omega | (simp only [St.set_n, St.up_n, List.length_cons, List.length_nil]; omega)) only [go_sem, Nat.reduceAdd, Nat.reduceMul, Nat.reduceSub, Int.reduceAdd, Int.reduceMul, Int.reduceSub, Int.reduceNeg, Int.reduceToNat, q34, q0, q1, q5]
        refine callF_wf (cellS_new rfl fun hw4 => ?_)
        simp -implicitDefEqProofs (disch := first | omega | (simp only [St.set_n, St.up_n, List.length_cons, List.length_nil]; omega)) only [go_sem, Nat.reduceAdd, Nat.reduceMul, Nat.reduceSub, Int.reduceAdd, Int.reduceMul, Int.reduceSub, Int.reduceNeg, Int.reduceToNat, hc, q34]
        refine ⟨4 - (0 + 1), by omega, _, To.refl _ _, 0 + 1, rfl, by omega, by first | (simp -implicitDefEqProofs (disch := first | omega | (simp only [St.set_n, St.up_n, List.length_cons, List.length_nil]; omega)) only [go_sem, Nat.reduceAdd, Nat.reduceMul, Nat.reduceSub, Int.reduceAdd, Int.reduceMul, Int.reduceSub, Int.reduceNeg, Int.reduceToNat]; done) | (simp -implicitDefEqProofs (disch := first | omega | (simp only [St.set_n, St.up_n, List.length_cons, List.length_nil]; omega)) only [go_sem, Nat.reduceAdd, Nat.reduceMul, Nat.reduceSub, Int.reduceAdd, Int.reduceMul, Int.reduceSub, Int.reduceNeg, Int.reduceToNat]; rfl), ⟨by simp -implicitDefEqProofs (disch := first | omega | (simp only [St.set_n, St.up_n, List.length_cons, List.length_nil]; omega)) only [go_sem, Nat.reduceAdd, Nat.reduceMul, Nat.reduceSub, Int.reduceAdd, Int.reduceMul, Int.reduceSub, Int.reduceNeg, Int.reduceToNat, q0], by simp -implicitDefEqProofs (disch := first | omega | (simp only [St.set_n, St.up_n, List.length_cons, List.length_nil]; omega)) only [go_sem, Nat.reduceAdd, Nat.reduceMul, Nat.reduceSub, Int.reduceAdd, Int.reduceMul, Int.reduceSub, Int.reduceNeg, Int.reduceToNat, q1], by simp -implicitDefEqProofs (disch := first | omega | (simp only [St.set_n, St.up_n, List.length_cons, List.length_nil]; omega)) only [go_sem, Nat.reduceAdd, Nat.reduceMul, Nat.reduceSub, Int.reduceAdd, Int.reduceMul, Int.reduceSub, Int.reduceNeg, Int.reduceToNat, q5], by simp -implicitDefEqProofs (disch := first | omega | (simp only [St.set_n, St.up_n, List.length_cons, List.length_nil]; omega)) only [go_sem, Nat.reduceAdd, Nat.reduceMul, Nat.reduceSub, Int.reduceAdd, Int.reduceMul, Int.reduceSub, Int.reduceNeg, Int.reduceToNat, hd]⟩, ⟨⟨_, a1, a2, a3, by simp -implicitDefEqProofs (disch := first | omega | (simp only [St.set_n, St.up_n, List.length_cons, List.length_nil]; omega)) only [go_sem, Nat.reduceAdd, Nat.reduceMul, Nat.reduceSub, Int.reduceAdd, Int.reduceMul, Int.reduceSub, Int.reduceNeg, Int.reduceToNat, hc]; rfl⟩, fun x hx hxp => ?_, ?_⟩⟩
        · have h2 := hk x hx hxp
          simp -implicitDefEqProofs (disch := first | omega | (simp only [St.set_n, St.up_n, List.length_cons, List.length_nil]; omega)) only [go_sem, Nat.reduceAdd, Nat.reduceMul, Nat.reduceSub, Int.reduceAdd, Int.reduceMul, Int.reduceSub, Int.reduceNeg, Int.reduceToNat, h2]
        · simp only [St.up_n, St.set_n]; omega
      · have hcn := (hws.2 _ _ hc).2
        simp -implicitDefEqProofs (disch := first | omega | (simp only [St.set_n, St.up_n, List.length_cons, List.length_nil]; omega)) only [go_sem, Nat.reduceAdd, Nat.reduceMul, Nat.reduceSub, Int.reduceAdd, Int.reduceMul, Int.reduceSub, Int.reduceNeg, Int.reduceToNat, q34, q0, q1, q5]
        refine effD_plan [0, 0, 0, 4, 12, 1, 33, 127, 255] [0, 1, 2, 5, 6, 7] (.eag 0 (.eag 1 (.eag 2 (.eag 5 (.eag 6 (.alt 3 [] (.alt 4 [] (.eag 7 (.alt 8 [] .fin .stop)) .stop) .stop)))))) (by kernel_rfl) ?_
        simp -implicitDefEqProofs (disch := first | omega | (simp only [St.set_n, St.up_n, List.length_cons, List.length_nil]; omega)) only [go_sem, Nat.reduceAdd, Nat.reduceMul, Nat.reduceSub, Int.reduceAdd, Int.reduceMul, Int.reduceSub, Int.reduceNeg, Int.reduceToNat, q34, q0, q1, q5]
        refine callF_wf (cellS_new rfl fun hw4 => ?_)
        simp -implicitDefEqProofs (disch := first | omega | (simp only [St.set_n, St.up_n, List.length_cons, List.length_nil]; omega)) only [go_sem, Nat.reduceAdd, Nat.reduceMul, Nat.reduceSub, Int.reduceAdd, Int.reduceMul, Int.reduceSub, Int.reduceNeg, Int.reduceToNat, hc, q34]
        refine ⟨4 - (1 + 1), by omega, _, To.refl _ _, 1 + 1, rfl, by omega, by first | (simp -implicitDefEqProofs (disch := first | omega | (simp only [St.set_n, St.up_n, List.length_cons, List.length_nil]; omega)) only [go_sem, Nat.reduceAdd, Nat.reduceMul, Nat.reduceSub, Int.reduceAdd, Int.reduceMul, Int.reduceSub, Int.reduceNeg, Int.reduceToNat]; done) | (simp -implicitDefEqProofs (disch := first | omega | (simp only [St.set_n, St.up_n, List.length_cons, List.length_nil]; omega)) only [go_sem, Nat.reduceAdd, Nat.reduceMul, Nat.reduceSub, Int.reduceAdd, Int.reduceMul, Int.reduceSub, Int.reduceNeg, Int.reduceToNat]; rfl), ⟨by simp -implicitDefEqProofs (disch := first | omega | (simp only [St.set_n, St.up_n, List.length_cons, List.length_nil]; omega)) only [go_sem, Nat.reduceAdd, Nat.reduceMul, Nat.reduceSub, Int.reduceAdd, Int.reduceMul, Int.reduceSub, Int.reduceNeg, Int.reduceToNat, q0], by simp -implicitDefEqProofs (disch := first | omega | (simp only [St.set_n, St.up_n, List.length_cons, List.length_nil]; omega)) only [go_sem, Nat.reduceAdd, Nat.reduceMul, Nat.reduceSub, Int.reduceAdd, Int.reduceMul, Int.reduceSub, Int.reduceNeg, Int.reduceToNat, q1], by simp -implicitDefEqProofs (disch := first | omega | (simp only [St.set_n, St.up_n, List.length_cons, List.length_nil]; omega)) only [go_sem, Nat.reduceAdd, Nat.reduceMul, Nat.reduceSub, Int.reduceAdd, Int.reduceMul, Int.reduceSub, Int.reduceNeg, Int.reduceToNat, q5], by simp -implicitDefEqProofs (disch := first | omega | (simp only [St.set_n, St.up_n, List.length_cons, List.length_nil]; omega)) only [go_sem, Nat.reduceAdd, Nat.reduceMul, Nat.reduceSub, Int.reduceAdd, Int.reduceMul, Int.reduceSub, Int.reduceNeg, Int.reduceToNat, hd]⟩, ⟨⟨a0, _, a2, a3, by simp -implicitDefEqProofs (disch := first | omega | (simp only [St.set_n, St.up_n, List.length_cons, List.length_nil]; omega)) only [go_sem, Nat.reduceAdd, Nat.reduceMul, Nat.reduceSub, Int.reduceAdd, Int.reduceMul, Int.reduceSub, Int.reduceNeg, Int.reduceToNat, hc]; rfl⟩, fun x hx hxp => ?_, ?_⟩⟩
        · have h2 := hk x hx hxp
          simp -implicitDefEqProofs (disch := first | omega | (simp only [St.set_n, St.up_n, List.length_cons, List.length_nil]; omega)) only [go_sem, Nat.reduceAdd, Nat.reduceMul, Nat.reduceSub, Int.reduceAdd, Int.reduceMul, Int.reduceSub, Int.reduceNeg, Int.reduceToNat, h2]
        · simp only [St.up_n, St.set_n]; omega
      · have hcn := (hws.2 _ _ hc).2
        simp -implicitDefEqProofs (disch := first | omega | (simp only [St.set_n, St.up_n, List.length_cons, List.length_nil]; omega)) only [go_sem, Nat.reduceAdd, Nat.reduceMul, Nat.reduceSub, Int.reduceAdd, Int.reduceMul, Int.reduceSub, Int.reduceNeg, Int.reduceToNat, q34, q0, q1, q5]
        refine effD_plan [0, 0, 0, 4, 12, 1, 33, 127, 255] [0, 1, 2, 5, 6, 7] (.eag 0 (.eag 1 (.eag 2 (.eag 5 (.eag 6 (.alt 3 [] (.alt 4 [] (.eag 7 (.alt 8 [] .fin .stop)) .stop) .stop)))))) (by kernel_rfl) ?_
        simp -implicitDefEqProofs (disch := first | omega | (simp only [St.set_n, St.up_n, List.length_cons, List.length_nil]; omega)) only [go_sem, Nat.reduceAdd, Nat.reduceMul, Nat.reduceSub, Int.reduceAdd, Int.reduceMul, Int.reduceSub, Int.reduceNeg, Int.reduceToNat, q34, q0, q1, q5]
        refine callF_wf (cellS_new rfl fun hw4 => ?_)
        simp -implicitDefEqProofs (disch := first | omega | (simp only [St.set_n, St.up_n, List.length_cons, List.length_nil]; omega)) only [go_sem, Nat.reduceAdd, Nat.reduceMul, Nat.reduceSub, Int.reduceAdd, Int.reduceMul, Int.reduceSub, Int.reduceNeg, Int.reduceToNat, hc, q34]
        refine ⟨4 - (2 + 1), by omega, _, To.refl _ _, 2 + 1, rfl, by omega, by first | (simp -implicitDefEqProofs (disch := first | omega | (simp only [St.set_n, St.up_n, List.length_cons, List.length_nil]; omega)) only [go_sem, Nat.reduceAdd, Nat.reduceMul, Nat.reduceSub, Int.reduceAdd, Int.reduceMul, Int.reduceSub, Int.reduceNeg, Int.reduceToNat]; done) | (simp -implicitDefEqProofs (disch := first | omega | (simp only [St.set_n, St.up_n, List.length_cons, List.length_nil]; omega)) only [go_sem, Nat.reduceAdd, Nat.reduceMul, Nat.reduceSub, Int.reduceAdd, Int.reduceMul, Int.reduceSub, Int.reduceNeg, Int.reduceToNat]; rfl), ⟨by simp -implicitDefEqProofs (disch := first | omega | (simp only [St.set_n, St.up_n, List.length_cons, List.length_nil]; omega)) only [go_sem, Nat.reduceAdd, Nat.reduceMul, Nat.reduceSub, Int.reduceAdd, Int.reduceMul, Int.reduceSub, Int.reduceNeg, Int.reduceToNat, q0], by simp -implicitDefEqProofs (disch := first | omega | (simp only [St.set_n, St.up_n, List.length_cons, List.length_nil]; omega)) only [go_sem, Nat.reduceAdd, Nat.reduceMul, Nat.reduceSub, Int.reduceAdd, Int.reduceMul, Int.reduceSub, Int.reduceNeg, Int.reduceToNat, q1], by simp -implicitDefEqProofs (disch := first | omega | (simp only [St.set_n, St.up_n, List.length_cons, List.length_nil]; omega)) only [go_sem, Nat.reduceAdd, Nat.reduceMul, Nat.reduceSub, Int.reduceAdd, Int.reduceMul, Int.reduceSub, Int.reduceNeg, Int.reduceToNat, q5], by simp -implicitDefEqProofs (disch := first | omega | (simp only [St.set_n, St.up_n, List.length_cons, List.length_nil]; omega)) only [go_sem, Nat.reduceAdd, Nat.reduceMul, Nat.reduceSub, Int.reduceAdd, Int.reduceMul, Int.reduceSub, Int.reduceNeg, Int.reduceToNat, hd]⟩, ⟨⟨a0, a1, _, a3, by simp -implicitDefEqProofs (disch := first | omega | (simp only [St.set_n, St.up_n, List.length_cons, List.length_nil]; omega)) only [go_sem, Nat.reduceAdd, Nat.reduceMul, Nat.reduceSub, Int.reduceAdd, Int.reduceMul, Int.reduceSub, Int.reduceNeg, Int.reduceToNat, hc]; rfl⟩, fun x hx hxp => ?_, ?_⟩⟩
        · have h2 := hk x hx hxp
          simp -implicitDefEqProofs (disch := first | omega | (simp only [St.set_n, St.up_n, List.length_cons, List.length_nil]; omega)) only [go_sem, Nat.reduceAdd, Nat.reduceMul, Nat.reduceSub, Int.reduceAdd, Int.reduceMul, Int.reduceSub, Int.reduceNeg, Int.reduceToNat, h2]
        · simp only [St.up_n, St.set_n]; omega
      · have hcn := (hws.2 _ _ hc).2
        simp -implicitDefEqProofs (disch := first | omega | (simp only [St.set_n, St.up_n, List.length_cons, List.length_nil]; omega)) only [go_sem, Nat.reduceAdd, Nat.reduceMul, Nat.reduceSub, Int.reduceAdd, Int.reduceMul, Int.reduceSub, Int.reduceNeg, Int.reduceToNat, q34, q0, q1, q5]
        refine effD_plan [0, 0, 0, 4, 12, 1, 33, 127, 255] [0, 1, 2, 5, 6, 7] (.eag 0 (.eag 1 (.eag 2 (.eag 5 (.eag 6 (.alt 3 [] (.alt 4 [] (.eag 7 (.alt 8 [] .fin .stop)) .stop) .stop)))))) (by kernel_rfl) ?_
        simp -implicitDefEqProofs (disch := first | omega | (simp only [St.set_n, St.up_n, List.length_cons, List.length_nil]; omega)) only [go_sem, Nat.reduceAdd, Nat.reduceMul, Nat.reduceSub, Int.reduceAdd, Int.reduceMul, Int.reduceSub, Int.reduceNeg, Int.reduceToNat, q34, q0, q1, q5]
        refine callF_wf (cellS_new rfl fun hw4 => ?_)
        simp -implicitDefEqProofs (disch := first | omega | (simp only [St.set_n, St.up_n, List.length_cons, List.length_nil]; omega)) only [go_sem, Nat.reduceAdd, Nat.reduceMul, Nat.reduceSub, Int.reduceAdd, Int.reduceMul, Int.reduceSub, Int.reduceNeg, Int.reduceToNat, hc, q34]
        refine ⟨4 - (3 + 1), by omega, _, To.refl _ _, 3 + 1, rfl, by omega, by first | (simp -implicitDefEqProofs (disch := first | omega | (simp only [St.set_n, St.up_n, List.length_cons, List.length_nil]; omega)) only [go_sem, Nat.reduceAdd, Nat.reduceMul, Nat.reduceSub, Int.reduceAdd, Int.reduceMul, Int.reduceSub, Int.reduceNeg, Int.reduceToNat]; done) | (simp -implicitDefEqProofs (disch := first | omega | (simp only [St.set_n, St.up_n, List.length_cons, List.length_nil]; omega)) only [go_sem, Nat.reduceAdd, Nat.reduceMul, Nat.reduceSub, Int.reduceAdd, Int.reduceMul, Int.reduceSub, Int.reduceNeg, Int.reduceToNat]; rfl), ⟨by simp -implicitDefEqProofs (disch := first | omega | (simp only [St.set_n, St.up_n, List.length_cons, List.length_nil]; omega)) only [go_sem, Nat.reduceAdd, Nat.reduceMul, Nat.reduceSub, Int.reduceAdd, Int.reduceMul, Int.reduceSub, Int.reduceNeg, Int.reduceToNat, q0], by simp -implicitDefEqProofs (disch := first | omega | (simp only [St.set_n, St.up_n, List.length_cons, List.length_nil]; omega)) only [go_sem, Nat.reduceAdd, Nat.reduceMul, Nat.reduceSub, Int.reduceAdd, Int.reduceMul, Int.reduceSub, Int.reduceNeg, Int.reduceToNat, q1], by simp -implicitDefEqProofs (disch := first | omega | (simp only [St.set_n, St.up_n, List.length_cons, List.length_nil]; omega)) only [go_sem, Nat.reduceAdd, Nat.reduceMul, Nat.reduceSub, Int.reduceAdd, Int.reduceMul, Int.reduceSub, Int.reduceNeg, Int.reduceToNat, q5], by simp -implicitDefEqProofs (disch := first | omega | (simp only [St.set_n, St.up_n, List.length_cons, List.length_nil]; omega)) only [go_sem, Nat.reduceAdd, Nat.reduceMul, Nat.reduceSub, Int.reduceAdd, Int.reduceMul, Int.reduceSub, Int.reduceNeg, Int.reduceToNat, hd]⟩, ⟨⟨a0, a1, a2, _, by simp -implicitDefEqProofs (disch := first | omega | (simp only [St.set_n, St.up_n, List.length_cons, List.length_nil]; omega)) only [go_sem, Nat.reduceAdd, Nat.reduceMul, Nat.reduceSub, Int.reduceAdd, Int.reduceMul, Int.reduceSub, Int.reduceNeg, Int.reduceToNat, hc]; rfl⟩, fun x hx hxp => ?_, ?_⟩⟩
        · have h2 := hk x hx hxp
          simp -implicitDefEqProofs (disch := first | omega | (simp only [St.set_n, St.up_n, List.length_cons, List.length_nil]; omega)) only [go_sem, Nat.reduceAdd, Nat.reduceMul, Nat.reduceSub, Int.reduceAdd, Int.reduceMul, Int.reduceSub, Int.reduceNeg, Int.reduceToNat, h2]
        · simp only [St.up_n, St.set_n]; omega
    · simp -implicitDefEqProofs (disch := first | omega | (simp only [St.set_n, St.up_n, List.length_cons, List.length_nil]; omega)) only [go_sem, Nat.reduceAdd, Nat.reduceMul, Nat.reduceSub, Int.reduceAdd, Int.reduceMul, Int.reduceSub, Int.reduceNeg, Int.reduceToNat, q34, hlt, hd]
      exact ⟨_, To.refl _ _, ⟨by simp -implicitDefEqProofs (disch := first | omega | (simp only [St.set_n, St.up_n, List.length_cons, List.length_nil]; omega)) only [go_sem, Nat.reduceAdd, Nat.reduceMul, Nat.reduceSub, Int.reduceAdd, Int.reduceMul, Int.reduceSub, Int.reduceNeg, Int.reduceToNat, q0], by simp -implicitDefEqProofs (disch := first | omega | (simp only [St.set_n, St.up_n, List.length_cons, List.length_nil]; omega)) only [go_sem, Nat.reduceAdd, Nat.reduceMul, Nat.reduceSub, Int.reduceAdd, Int.reduceMul, Int.reduceSub, Int.reduceNeg, Int.reduceToNat, q1], by simp -implicitDefEqProofs (disch := first | omega | (simp only [St.set_n, St.up_n, List.length_cons, List.length_nil]; omega)) only [go_sem, Nat.reduceAdd, Nat.reduceMul, Nat.reduceSub, Int.reduceAdd, Int.reduceMul, Int.reduceSub, Int.reduceNeg, Int.reduceToNat, q5], by simp -implicitDefEqProofs (disch := first | omega | (simp only [St.set_n, St.up_n, List.length_cons, List.length_nil]; omega)) only [go_sem, Nat.reduceAdd, Nat.reduceMul, Nat.reduceSub, Int.reduceAdd, Int.reduceMul, Int.reduceSub, Int.reduceNeg, Int.reduceToNat, hd]⟩, ⟨⟨a0, a1, a2, a3, hc⟩, hk, hn⟩⟩
  clear hc2 hk2 hk2' hw1 hw2 hw3 hw2' hold
  rintro e s hws ⟨⟨q0, q1, q5, hd⟩, ⟨⟨a0, a1, a2, a3, hc⟩, hk, hn⟩⟩
  have hnr : max (min subs 8) 0 = (coreN subs : Int) := by unfold coreN; omega
  refine SemS.seq (fun e s => ∃ rr rb w, e.v 5 = .pointer (some ⟨τ.n, 0, none⟩) ∧ e.d = [] ∧ CnR τ τ.n σ.n k1 g (τ2.n + 1) (coreN subs) (roomN cap) s rr rb w) ?_ ?_
  · refine SemS.seqw fun _ => ?_
    simp -implicitDefEqProofs (disch := first | omega | (simp only [St.set_n, St.up_n, List.length_cons, List.length_nil]; omega)) only [go_sem, Nat.reduceAdd, Nat.reduceMul, Nat.reduceSub, Int.reduceAdd, Int.reduceMul, Int.reduceSub, Int.reduceNeg, Int.reduceToNat, q0, hnr]
    refine SemS.block (SemS.loop (fun m e s => ∃ (i : Nat) (rr rb : Nat → Nat) (w : Value), m = coreN subs - i ∧ i ≤ coreN subs ∧ e.v 48 = .int .i64 (coreN subs) ∧ e.v 49 = .int .i64 i ∧ CnF τ.n subs cap e ∧ CnR τ τ.n σ.n k1 g (τ2.n + 1) i (roomN cap) s rr rb w) (coreN subs) ?_ ?_)
    · refine ⟨0, fun _ => 0, fun _ => 0, .slice none 0 0, by omega, by omega, by first | (simp -implicitDefEqProofs (disch := first | omega | (simp only [St.set_n, St.up_n, List.length_cons, List.length_nil]; omega)) only [go_sem, Nat.reduceAdd, Nat.reduceMul, Nat.reduceSub, Int.reduceAdd, Int.reduceMul, Int.reduceSub, Int.reduceNeg, Int.reduceToNat]; done) | (simp -implicitDefEqProofs (disch := first | omega | (simp only [St.set_n, St.up_n, List.length_cons, List.length_nil]; omega)) only [go_sem, Nat.reduceAdd, Nat.reduceMul, Nat.reduceSub, Int.reduceAdd, Int.reduceMul, Int.reduceSub, Int.reduceNeg, Int.reduceToNat]; rfl), by first | (simp -implicitDefEqProofs (disch := first | omega | (simp only [St.set_n, St.up_n, List.length_cons, List.length_nil]; omega)) only [go_sem, Nat.reduceAdd, Nat.reduceMul, Nat.reduceSub, Int.reduceAdd, Int.reduceMul, Int.reduceSub, Int.reduceNeg, Int.reduceToNat]; done) | (simp -implicitDefEqProofs (disch := first | omega | (simp only [St.set_n, St.up_n, List.length_cons, List.length_nil]; omega)) only [go_sem, Nat.reduceAdd, Nat.reduceMul, Nat.reduceSub, Int.reduceAdd, Int.reduceMul, Int.reduceSub, Int.reduceNeg, Int.reduceToNat]; rfl), ⟨by simp -implicitDefEqProofs (disch := first | omega | (simp only [St.set_n, St.up_n, List.length_cons, List.length_nil]; omega)) only [go_sem, Nat.reduceAdd, Nat.reduceMul, Nat.reduceSub, Int.reduceAdd, Int.reduceMul, Int.reduceSub, Int.reduceNeg, Int.reduceToNat, q0], by simp -implicitDefEqProofs (disch := first | omega | (simp only [St.set_n, St.up_n, List.length_cons, List.length_nil]; omega)) only [go_sem, Nat.reduceAdd, Nat.reduceMul, Nat.reduceSub, Int.reduceAdd, Int.reduceMul, Int.reduceSub, Int.reduceNeg, Int.reduceToNat, q1], by simp -implicitDefEqProofs (disch := first | omega | (simp only [St.set_n, St.up_n, List.length_cons, List.length_nil]; omega)) only [go_sem, Nat.reduceAdd, Nat.reduceMul, Nat.reduceSub, Int.reduceAdd, Int.reduceMul, Int.reduceSub, Int.reduceNeg, Int.reduceToNat, q5], by simp -implicitDefEqProofs (disch := first | omega | (simp only [St.set_n, St.up_n, List.length_cons, List.length_nil]; omega)) only [go_sem, Nat.reduceAdd, Nat.reduceMul, Nat.reduceSub, Int.reduceAdd, Int.reduceMul, Int.reduceSub, Int.reduceNeg, Int.reduceToNat, hd]⟩, ⟨⟨_, _, _, _, hc⟩, hk, hn, Own.nil, fun j hj => by omega, fun j hj => by omega, fun b hb => by cases hb⟩⟩
    rintro m e s hws ⟨i, rr, rb, w, hm, hi, q48, q49, ⟨q0, q1, q5, hd⟩, ⟨⟨a0, a1, a2, a3, hc⟩, hk, hn, hO, hR, ho, hb⟩⟩
    refine SemS.wp fun _ => ?_
    obtain ⟨A, C, rfl, hC⟩ := hO.is
    by_cases hlt : (i : Int) < coreN subs
    · have hcn := (hws.2 _ _ hc).2
      simp -implicitDefEqProofs (disch := first | omega | (simp only [St.set_n, St.up_n, List.length_cons, List.length_nil]; omega)) only [go_sem, Nat.reduceAdd, Nat.reduceMul, Nat.reduceSub, Int.reduceAdd, Int.reduceMul, Int.reduceSub, Int.reduceNeg, Int.reduceToNat, q48, q49, q0, q1, q5, hlt, hc]
      refine effD_plan [0, 0, 2, 6, 14, 0, 32, 96, 224, 480, 1022, 2047, 4095, 8191] [0, 1, 2, 3, 4, 5, 6, 7, 11, 12] (.eag 0 (.eag 1 (.eag 2 (.eag 3 (.eagq 4 (.eag 5 (.eagq 6 (.eagq 7 (.alt 8 [4] (.alt 9 [4] (.alt 10 [] (.eag 11 (.eag 12 (.alt 13 [] .fin .stop))) .stop) .stop) .stop))))))))) (by kernel_rfl) ?_
      simp -implicitDefEqProofs (disch := first | omega | (simp only [St.set_n, St.up_n, List.length_cons, List.length_nil]; omega)) only [go_sem, Nat.reduceAdd, Nat.reduceMul, Nat.reduceSub, Int.reduceAdd, Int.reduceMul, Int.reduceSub, Int.reduceNeg, Int.reduceToNat, q48, q49, q0, q1, q5, hlt, hc]
      refine callF_wf (ring_new fun τ4 hIR hn4 hk4 hw4 => ?_)
      have hrn : ringN (max (min cap 16) 1) = roomN cap := by unfold ringN roomN; omega
      rw [hrn] at hIR
      have hc4 := (hk4 _ hcn).trans hc
      simp -implicitDefEqProofs (disch := first | omega | (simp only [St.set_n, St.up_n, List.length_cons, List.length_nil]; omega)) only [go_sem, Nat.reduceAdd, Nat.reduceMul, Nat.reduceSub, Int.reduceAdd, Int.reduceMul, Int.reduceSub, Int.reduceNeg, Int.reduceToNat, hc4]
      have hO4 : Own τ4 100 1 (rgP rr i) i (.slice A i C) := hO.keepR fun b o hb' ho' => by rw [hk4 b (hws.2 _ _ ho').2]; exact ho'
      have hiN : i < coreN subs := by omega
      have h8 : coreN subs ≤ 8 := by unfold coreN; omega
      refine appE hw4 hO4 se85 kd85 zr100 rfl (by omega) (ys := [.pointer (some ⟨s.n + 1, 0, none⟩)]) rfl rfl (by omega) fun A' C' s5 hC' o5 heq hb' hn5 hw5 => ?_
      have hcb : blk (.slice A i C) ≠ some τ.n := fun e => by have := (hb _ e).1; omega
      have hc5 := (heq _ (by omega) hcb).trans hc4
      simp -implicitDefEqProofs (disch := first | omega | (simp only [St.set_n, St.up_n, List.length_cons, List.length_nil]; omega)) only [go_sem, Nat.reduceAdd, Nat.reduceMul, Nat.reduceSub, Int.reduceAdd, Int.reduceMul, Int.reduceSub, Int.reduceNeg, Int.reduceToNat, hc5, q49]
      have hb6 : ∀ b, blk (.slice A' (i + 1) C') = some b → s.n + 2 ≤ b ∨ blk (.slice A i C) = some b := fun b h => (hb' b h).imp (fun h => by omega) id
      have hlow : ∀ j, j < i → rb j < s.n ∧ rr j < s.n := fun j hj => ⟨(hws.2 _ _ (hR j hj).row).2, (hws.2 _ _ (hR j hj).root).2⟩
      have k5 : ∀ c, c < s.n → c ≠ τ.n → blk (.slice A i C) ≠ some c → (s5.set τ.n (.raw (.cells #[.pointer (some ⟨σ.n, 0, none⟩), .pointer (some ⟨k1, 0, none⟩), .pointer (some ⟨g, 0, none⟩), .pointer (some ⟨τ2.n + 1, 0, none⟩), .pointer a0, .pointer a1, .pointer a2, .pointer a3, .slice A' (i + 1) C', .int .i64 0] 87 (0, 0)))).m c = s.m c := fun c h1 h2 h3 => by
        rw [St.set_m_ne _ _ h2, heq c (by omega) h3, hk4 c h1]
      refine ⟨coreN subs - (i + 1), by omega, _, To.refl _ _, i + 1, updL rr i (s.n + 1), updL rb i s.n, .slice A' (i + 1) C', rfl, by omega, by first | exact q48 | (simp -implicitDefEqProofs (disch := first | omega | (simp only [St.set_n, St.up_n, List.length_cons, List.length_nil]; omega)) only [go_sem, Nat.reduceAdd, Nat.reduceMul, Nat.reduceSub, Int.reduceAdd, Int.reduceMul, Int.reduceSub, Int.reduceNeg, Int.reduceToNat, q48]; done), by first | (simp; done) | (simp -implicitDefEqProofs (disch := first | omega | (simp only [St.set_n, St.up_n, List.length_cons, List.length_nil]; omega)) only [go_sem, Nat.reduceAdd, Nat.reduceMul, Nat.reduceSub, Int.reduceAdd, Int.reduceMul, Int.reduceSub, Int.reduceNeg, Int.reduceToNat]; simp; done), ⟨by simp -implicitDefEqProofs (disch := first | omega | (simp only [St.set_n, St.up_n, List.length_cons, List.length_nil]; omega)) only [go_sem, Nat.reduceAdd, Nat.reduceMul, Nat.reduceSub, Int.reduceAdd, Int.reduceMul, Int.reduceSub, Int.reduceNeg, Int.reduceToNat, q0], by simp -implicitDefEqProofs (disch := first | omega | (simp only [St.set_n, St.up_n, List.length_cons, List.length_nil]; omega)) only [go_sem, Nat.reduceAdd, Nat.reduceMul, Nat.reduceSub, Int.reduceAdd, Int.reduceMul, Int.reduceSub, Int.reduceNeg, Int.reduceToNat, q1], by simp -implicitDefEqProofs (disch := first | omega | (simp only [St.set_n, St.up_n, List.length_cons, List.length_nil]; omega)) only [go_sem, Nat.reduceAdd, Nat.reduceMul, Nat.reduceSub, Int.reduceAdd, Int.reduceMul, Int.reduceSub, Int.reduceNeg, Int.reduceToNat, q5], by simp -implicitDefEqProofs (disch := first | omega | (simp only [St.set_n, St.up_n, List.length_cons, List.length_nil]; omega)) only [go_sem, Nat.reduceAdd, Nat.reduceMul, Nat.reduceSub, Int.reduceAdd, Int.reduceMul, Int.reduceSub, Int.reduceNeg, Int.reduceToNat, hd]⟩, ⟨⟨a0, a1, a2, a3, by simp -implicitDefEqProofs (disch := first | omega | (simp only [St.set_n, St.up_n, List.length_cons, List.length_nil]; omega)) only [go_sem, Nat.reduceAdd, Nat.reduceMul, Nat.reduceSub, Int.reduceAdd, Int.reduceMul, Int.reduceSub, Int.reduceNeg, Int.reduceToNat]⟩, fun x hx hxp => ?_, by simp only [St.set_n]; omega, ?_, fun j hj => ?_, fun j hj => ?_, fun b hb1 => ?_⟩⟩
      · rw [k5 x (by omega) (by omega) (fun e => by have := (hb _ e).1; omega)]
        exact hk x hx hxp
      · rw [← rgP_succ]
        refine o5.keepR fun b o hb1 ho' => ?_
        rw [St.set_m_ne _ _ (fun e => ?_)]; exact ho'
        subst e
        rcases hb6 _ hb1 with h | h
        · omega
        · exact hcb h
      · by_cases e : j = i
        · subst e
          rw [updL_eq, updL_eq]
          refine isRing_keep hIR ?_ ?_
          · rw [St.set_m_ne _ _ (by omega), heq _ (by omega) fun e => ?_]
            have := hO.at_ e
            obtain ⟨o, ho'⟩ := this
            have := (hws.2 _ _ ho').2; omega
          · rw [St.set_m_ne _ _ (by omega), heq _ (by omega) fun e => ?_]
            have := hO.at_ e
            obtain ⟨o, ho'⟩ := this
            have := (hws.2 _ _ ho').2; omega
        · rw [updL_ne e, updL_ne e]
          have hji : j < i := by omega
          obtain ⟨l1, l2⟩ := hlow j hji
          obtain ⟨p1, p2, p3⟩ := ho j hji
          exact isRing_keep (hR j hji) (k5 _ l2 (by omega) fun e => ((hb _ e).2 j hji).1 rfl) (k5 _ l1 (by omega) fun e => ((hb _ e).2 j hji).2 rfl)
      · by_cases e : j = i
        · subst e
          rw [updL_eq, updL_eq]
          refine ⟨by omega, rfl, fun k hk => ?_⟩
          rw [updL_ne (by omega)]
          exact (hlow k hk).2
        · rw [updL_ne e, updL_ne e]
          have hji : j < i := by omega
          obtain ⟨p1, p2, p3⟩ := ho j hji
          exact ⟨p1, p2, fun k hk => by rw [updL_ne (by omega)]; exact p3 k hk⟩
      · have hbc : τ.n < b := (hb6 b hb1).elim (fun h => by omega) fun h => (hb b h).1
        refine ⟨hbc, fun j hj => ?_⟩
        by_cases e : j = i
        · subst e
          rw [updL_eq, updL_eq]
          rcases hb6 b hb1 with h | h
          · omega
          · obtain ⟨o, ho'⟩ := hO.at_ h
            have := (hws.2 _ _ ho').2; omega
        · rw [updL_ne e, updL_ne e]
          have hji : j < i := by omega
          rcases hb6 b hb1 with h | h
          · have := hlow j hji; omega
          · exact (hb b h).2 j hji
    · have hin : i = coreN subs := by omega
      subst hin
      simp -implicitDefEqProofs (disch := first | omega | (simp only [St.set_n, St.up_n, List.length_cons, List.length_nil]; omega)) only [go_sem, Nat.reduceAdd, Nat.reduceMul, Nat.reduceSub, Int.reduceAdd, Int.reduceMul, Int.reduceSub, Int.reduceNeg, Int.reduceToNat, q48, q49, hlt, hd]
      exact ⟨_, To.refl _ _, rr, rb, _, q5, ⟨⟨a0, a1, a2, a3, hc⟩, hk, hn, hO, hR, ho, hb⟩⟩
  rintro e s hws ⟨rr, rb, w, q5, hd, hR⟩
  refine SemS.wp fun _ => ?_
  simp -implicitDefEqProofs (disch := first | omega | (simp only [St.set_n, St.up_n, List.length_cons, List.length_nil]; omega)) only [go_sem, Nat.reduceAdd, Nat.reduceMul, Nat.reduceSub, Int.reduceAdd, Int.reduceMul, Int.reduceSub, Int.reduceNeg, Int.reduceToNat, q5, hd]
  refine ⟨_, To.refl _ _, hK ⟨τ.n, g, k1 + 1, σ.n, k1, τ2.n + 1⟩ rr rb w s ⟨⟨τ, hR⟩, by have := hR.n; omega, fun x y hx => ?_, ?_, ?_, ?_, by simp only; omega, by simp only; omega, by simp only; omega⟩ hws⟩
  · have h1 := hσ x y hx
    have h2 := (hwf.2 _ _ hx).2
    rw [hR.keep x (by omega) (by omega)]; exact h1
  · exact (hR.keep _ (by simp only; omega) (by simp only; omega)).trans hme
  · exact (hR.keep _ (by simp only; omega) (by simp only; omega)).trans hg1
  · exact (hR.keep _ (by simp only; omega) (by simp only; omega)).trans hg2
end
end Go.Proofs.YtdbgeahmhfocaaaGreat
