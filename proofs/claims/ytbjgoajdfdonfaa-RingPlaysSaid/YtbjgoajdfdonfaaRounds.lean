/- 'RingRounds' and the document's example of layer 11: the walks. -/
import Derived.Test.YtbjgoajdfdonfaaRing
import Derived.Test.YtbjgoajdfdonfaaEngR
namespace Go.Proofs.Ytbjgoajdfdonfaa
set_option linter.unusedSimpArgs false
set_option linter.unusedVariables false
set_option maxRecDepth 100000
open Go Go.RowKit
section
variable {B : World} {σ : St} {K : Value → St → Prop}

theorem awake11 (hK : ∀ k, σ.n ≤ k → K (.bool true) (σ.up k)) : Fn Try.prog B 36 #[] σ K := by
  refine Fn.of' is36 (by simp) fun hwf => ?_
  simp only [b36, Try.f36, Option.getD_some]
  simp -implicitDefEqProofs (disch := first | omega | (simp only [St.set_n, St.up_n, List.length_cons, List.length_nil]; omega)) only [go_sem, Nat.reduceAdd, Nat.reduceMul, Nat.reduceSub, Int.reduceAdd, Int.reduceMul, Int.reduceSub, Int.reduceNeg, Int.reduceToNat]
  refine callF_of (ring_new fun τ h0 hn hσ => ?_)
  have e1 : ringN 1 = 1 := by decide
  rw [e1] at h0
  simp -implicitDefEqProofs (disch := first | omega | (simp only [St.set_n, St.up_n, List.length_cons, List.length_nil]; omega)) only [go_sem, Nat.reduceAdd, Nat.reduceMul, Nat.reduceSub, Int.reduceAdd, Int.reduceMul, Int.reduceSub, Int.reduceNeg, Int.reduceToNat]
  refine callF_of (ring_put h0 (by omega) fun τ1 h1 hn1 hk1 => ?_)
  simp only [List.length_nil, Nat.zero_lt_one, if_true, List.nil_append, decide_true] at h1 ⊢
  simp -implicitDefEqProofs (disch := first | omega | (simp only [St.set_n, St.up_n, List.length_cons, List.length_nil]; omega)) only [go_sem, Nat.reduceAdd, Nat.reduceMul, Nat.reduceSub, Int.reduceAdd, Int.reduceMul, Int.reduceSub, Int.reduceNeg, Int.reduceToNat]
  refine callF_of (ring_put h1 (by omega) fun τ2 h2 hn2 hk2 => ?_)
  simp only [List.length_cons, List.length_nil, Nat.zero_add, Nat.lt_irrefl, if_false, decide_false] at h2 ⊢
  simp -implicitDefEqProofs (disch := first | omega | (simp only [St.set_n, St.up_n, List.length_cons, List.length_nil]; omega)) only [go_sem, Nat.reduceAdd, Nat.reduceMul, Nat.reduceSub, Int.reduceAdd, Int.reduceMul, Int.reduceSub, Int.reduceNeg, Int.reduceToNat]
  refine callF_of (ring_get h2 (by omega) fun τ3 h3 hn3 hk3 => ?_)
  have e2 : decide (¬ ([1] : List Int).length = 0) = true := by decide
  have e3 : ([1] : List Int).getD 0 0 = 1 := rfl
  have e4 : IntKind.i64.wrap ((0 : Int) + 1) = 1 := by decide
  rw [e2, e3]
  simp -implicitDefEqProofs (disch := first | omega | (simp only [St.set_n, St.up_n, List.length_cons, List.length_nil]; omega)) only [go_sem, Nat.reduceAdd, Nat.reduceMul, Nat.reduceSub, Int.reduceAdd, Int.reduceMul, Int.reduceSub, Int.reduceNeg, Int.reduceToNat]
  refine callF_of (ring_drops h3 ?_)
  simp -implicitDefEqProofs (disch := first | omega | (simp only [St.set_n, St.up_n, List.length_cons, List.length_nil]; omega)) only [go_sem, Nat.reduceAdd, Nat.reduceMul, Nat.reduceSub, Int.reduceAdd, Int.reduceMul, Int.reduceSub, Int.reduceNeg, Int.reduceToNat, e4]
  refine ⟨_, To.same (fun d y h2' h3' => ?_) hwf, ?_⟩
  · rw [hk3 d (by omega) (by omega), hk2 d (by omega) (by omega), hk1 d (by omega) (by omega)]
    exact hσ d y h2' h3'
  · exact hK _ (by omega)

theorem wfLow (h : σ.wf B) {b : Nat} (hb : b < B.heap.size) : σ.m b = none := by
  cases hm : σ.m b with
  | none => rfl
  | some x => have := (h.2 b x hm).1; omega
/-- A small number as it lies in memory. -/
def RU8 (x : Nat) (cs : List Value) : Prop := cs = [.int .u8 x] ∧ x ≤ 255
/-- Numbers in a row. -/
def seqL (a n : Nat) : List Int := (List.range n).map fun j => ((a + j : Nat) : Int)
theorem seqL_len (a n : Nat) : (seqL a n).length = n := by simp [seqL]
theorem seqL_succ (a n : Nat) : seqL a (n + 1) = seqL a n ++ [((a + n : Nat) : Int)] := by simp [seqL, List.range_succ]
theorem seqL_cons (a n : Nat) : seqL a (n + 1) = (a : Int) :: seqL (a + 1) n := by
  simp only [seqL, List.range_succ_eq_map, List.map_cons, List.map_map, Nat.add_zero]
  congr 1
  refine List.map_congr_left fun j _ => ?_
  simp only [Function.comp]; congr 1; omega

set_option maxHeartbeats 4000000 in
theorem rounds11 {s : Int} {l : List Nat} {v : Value} (hs : 0 ≤ s ∧ s ≤ 255) (hl : SlR B 1 RU8 l v) (hK : ∀ k, σ.n ≤ k → K (.bool true) (σ.up k)) : Fn Try.prog B 7 #[.int .u8 s, v] σ K := by
  obtain ⟨a, cap, rfl, hlc, hcm, hnil, hat⟩ := hl
  refine Fn.of' is7 (by simp) fun hwf => ?_
  have hB := hwf.1
  simp only [b7, Try.f7, Option.getD_some]
  simp -implicitDefEqProofs (disch := first | omega | (simp only [St.set_n, St.up_n, List.length_cons, List.length_nil]; omega)) only [go_sem, Nat.reduceAdd, Nat.reduceMul, Nat.reduceSub, Int.reduceAdd, Int.reduceMul, Int.reduceSub, Int.reduceNeg, Int.reduceToNat]
  refine callF_of (awake11 fun k hk => ?_)
  simp -implicitDefEqProofs (disch := first | omega | (simp only [St.set_n, St.up_n, List.length_cons, List.length_nil]; omega)) only [go_sem, Nat.reduceAdd, Nat.reduceMul, Nat.reduceSub, Int.reduceAdd, Int.reduceMul, Int.reduceSub, Int.reduceNeg, Int.reduceToNat]
  by_cases h50 : (50 : Int) < l.length
  · simp -implicitDefEqProofs (disch := first | omega | (simp only [St.set_n, St.up_n, List.length_cons, List.length_nil]; omega)) only [go_sem, Nat.reduceAdd, Nat.reduceMul, Nat.reduceSub, Int.reduceAdd, Int.reduceMul, Int.reduceSub, Int.reduceNeg, Int.reduceToNat, h50]
    exact ⟨_, To.same (fun d y h2 h3 => by simp -implicitDefEqProofs (disch := first | omega | (simp only [St.set_n, St.up_n, List.length_cons, List.length_nil]; omega)) only [go_sem, Nat.reduceAdd, Nat.reduceMul, Nat.reduceSub, Int.reduceAdd, Int.reduceMul, Int.reduceSub, Int.reduceNeg, Int.reduceToNat, h3]) hwf, hK _ (by (try simp only [St.up_n, St.set_n, leftAs] at *); omega)⟩
  simp -implicitDefEqProofs (disch := first | omega | (simp only [St.set_n, St.up_n, List.length_cons, List.length_nil]; omega)) only [go_sem, Nat.reduceAdd, Nat.reduceMul, Nat.reduceSub, Int.reduceAdd, Int.reduceMul, Int.reduceSub, Int.reduceNeg, Int.reduceToNat, h50]
  have hns : ((ringN s : Nat) : Int) = max s 1 := by unfold ringN; omega
  have hn1 : 1 ≤ ringN s := by omega
  have hn2 : ringN s ≤ 255 := by omega
  refine callF_of (ring_new fun τ h0 hn hσ => ?_)
  generalize ringN s = n0 at hns hn1 hn2 h0
  have hn1' : ¬ (n0 : Int) < 1 := by omega
  have hn2' : ¬ (n0 : Int) > 255 := by omega
  simp -implicitDefEqProofs (disch := first | omega | (simp only [St.set_n, St.up_n, List.length_cons, List.length_nil]; omega)) only [go_sem, Nat.reduceAdd, Nat.reduceMul, Nat.reduceSub, Int.reduceAdd, Int.reduceMul, Int.reduceSub, Int.reduceNeg, Int.reduceToNat]
  refine callF_of (ring_cap h0 ?_)
  simp -implicitDefEqProofs (disch := first | omega | (simp only [St.set_n, St.up_n, List.length_cons, List.length_nil]; omega)) only [go_sem, Nat.reduceAdd, Nat.reduceMul, Nat.reduceSub, Int.reduceAdd, Int.reduceMul, Int.reduceSub, Int.reduceNeg, Int.reduceToNat, hn1', hn2']
  refine callF_of (ring_cap h0 ?_)
  simp -implicitDefEqProofs (disch := first | omega | (simp only [St.set_n, St.up_n, List.length_cons, List.length_nil]; omega)) only [go_sem, Nat.reduceAdd, Nat.reduceMul, Nat.reduceSub, Int.reduceAdd, Int.reduceMul, Int.reduceSub, Int.reduceNeg, Int.reduceToNat, hn1', hn2']
  refine loop_rule' (fun m e t => ∃ (i G : Nat) (D : Int), m = l.length - i ∧ i ≤ l.length ∧ G ≤ 255 * i ∧ e.v 1 = .slice a l.length cap ∧ e.v 5 = .pointer (some ⟨k + 1, 0, none⟩) ∧ e.v 6 = .int .i64 G ∧ e.v 7 = .int .i64 i ∧ e.d = [] ∧
    IsRing t (k + 1) k n0 [] G D ∧ (∀ c x, c < σ.n → σ.m c = some x → t.m c = some x) ∧ k ≤ t.n) l.length 0
    (fun e t => ∃ (G : Nat) (D : Int), e.v 5 = .pointer (some ⟨k + 1, 0, none⟩) ∧ e.d = [] ∧ IsRing t (k + 1) k n0 [] G D ∧ (∀ c x, c < σ.n → σ.m c = some x → t.m c = some x) ∧ k ≤ t.n) ?_ ?_ ?_
  · refine ⟨0, 0, 0, by omega, by omega, by omega, ?_⟩
    simp -implicitDefEqProofs (disch := first | omega | (simp only [St.set_n, St.up_n, List.length_cons, List.length_nil]; omega)) only [go_sem, Nat.reduceAdd, Nat.reduceMul, Nat.reduceSub, Int.reduceAdd, Int.reduceMul, Int.reduceSub, Int.reduceNeg, Int.reduceToNat]
    simp
    refine ⟨h0, fun c x hc hx => ?_, by (simp only [St.up_n] at hn); omega⟩
    exact hσ c x (by simp only [St.up_n]; omega) (by simpa using hx)
  · rintro m e t hwt ⟨i, G, D, hm, hi, hG, q1, q5, q6, q7, hd, hr, hkeep, hkt⟩
    simp -implicitDefEqProofs (disch := first | omega | (simp only [St.set_n, St.up_n, List.length_cons, List.length_nil]; omega)) only [go_sem, Nat.reduceAdd, Nat.reduceMul, Nat.reduceSub, Int.reduceAdd, Int.reduceMul, Int.reduceSub, Int.reduceNeg, Int.reduceToNat, q1, q5, q6, q7]
    by_cases hlt : (i : Int) < l.length
    · obtain ⟨u, hacc⟩ : ∃ x, l[i]? = some x := ⟨l[i]'(by omega), List.getElem?_eq_getElem (by omega)⟩
      obtain ⟨b, o, cs, rfl, hb, ⟨hR, hu⟩, hsz, hcell⟩ := hat i _ hacc
      subst hR
      have c0 : B.cell? ⟨b, o + i, none⟩ = some (.int .u8 u) := by have := hcell 0 _ rfl; rwa [Nat.mul_one, Nat.add_zero] at this
      have hbs := wfLow hwt hb
      have hne : ¬ (n0 : Int) + 1 = 0 := by omega
      have ht : (u : Int).tmod ((n0 : Int) + 1) = ((u % (n0 + 1) : Nat) : Int) := by
        rw [Int.tmod_eq_emod_of_nonneg (by omega), Int.natCast_emod]; rfl
      have hnl : u % (n0 + 1) ≤ n0 := Nat.le_of_lt_succ (Nat.mod_lt _ (by omega))
      simp -implicitDefEqProofs (disch := first | omega | (simp only [St.set_n, St.up_n, List.length_cons, List.length_nil]; omega)) only [go_sem, Nat.reduceAdd, Nat.reduceMul, Nat.reduceSub, Int.reduceAdd, Int.reduceMul, Int.reduceSub, Int.reduceNeg, Int.reduceToNat, q1, q5, q6, q7, hlt, hbs, hb, c0]
      refine effD_quiet (.int .i64 n0) (fun m' hm' => ?_) ?_
      · simp -implicitDefEqProofs (disch := first | omega | (simp only [St.set_n, St.up_n, List.length_cons, List.length_nil]; omega)) only [go_sem, Nat.reduceAdd, Nat.reduceMul, Nat.reduceSub, Int.reduceAdd, Int.reduceMul, Int.reduceSub, Int.reduceNeg, Int.reduceToNat, q5]
        exact ring_cap (h := ⟨hr.ne, hr.pos, hr.big, hr.full, hr.low, by simpa using hr.root, by simpa using hr.row⟩) ⟨rfl, m', Nat.le_refl _, rfl⟩
      simp -implicitDefEqProofs (disch := first | omega | (simp only [St.set_n, St.up_n, List.length_cons, List.length_nil]; omega)) only [go_sem, Nat.reduceAdd, Nat.reduceMul, Nat.reduceSub, Int.reduceAdd, Int.reduceMul, Int.reduceSub, Int.reduceNeg, Int.reduceToNat, q1, q5, q6, q7, hne, ht]
      intro j hj
      generalize u % (n0 + 1) = n at hnl ⊢
      refine loop_rule' (fun m e t => ∃ (c : Nat), m = n - c ∧ c ≤ n ∧ e.v 1 = .slice (some ⟨b, o, none⟩) l.length cap ∧ e.v 5 = .pointer (some ⟨k + 1, 0, none⟩) ∧ e.v 6 = .int .i64 G ∧ e.v 7 = .int .i64 i ∧ e.v 8 = .int .i64 n ∧ e.v 9 = .int .i64 c ∧ e.d = [] ∧
        IsRing t (k + 1) k n0 (seqL G c) G D ∧ (∀ c x, c < σ.n → σ.m c = some x → t.m c = some x) ∧ k ≤ t.n) n 2
        (fun e t => e.v 1 = .slice (some ⟨b, o, none⟩) l.length cap ∧ e.v 5 = .pointer (some ⟨k + 1, 0, none⟩) ∧ e.v 6 = .int .i64 G ∧ e.v 7 = .int .i64 i ∧ e.v 8 = .int .i64 n ∧ e.d = [] ∧
        IsRing t (k + 1) k n0 (seqL G n) G D ∧ (∀ c x, c < σ.n → σ.m c = some x → t.m c = some x) ∧ k ≤ t.n) ?_ ?_ ?_
      · refine ⟨0, by omega, by omega, ?_⟩
        simp -implicitDefEqProofs (disch := first | omega | (simp only [St.set_n, St.up_n, List.length_cons, List.length_nil]; omega)) only [go_sem, Nat.reduceAdd, Nat.reduceMul, Nat.reduceSub, Int.reduceAdd, Int.reduceMul, Int.reduceSub, Int.reduceNeg, Int.reduceToNat, q1, q5, q6, q7, hd]
        simp
        refine ⟨⟨hr.ne, hr.pos, hr.big, by simp [seqL], hr.low, by simpa [seqL] using hr.root, by simpa [seqL] using hr.row⟩, hkeep, by omega⟩
      · clear hr
        rintro m e t hwt ⟨c, hm, hc, q1, q5, q6, q7, q8, q9, hd, hr, hkeep, hkt⟩
        simp -implicitDefEqProofs (disch := first | omega | (simp only [St.set_n, St.up_n, List.length_cons, List.length_nil]; omega)) only [go_sem, Nat.reduceAdd, Nat.reduceMul, Nat.reduceSub, Int.reduceAdd, Int.reduceMul, Int.reduceSub, Int.reduceNeg, Int.reduceToNat, q1, q5, q6, q7, q8, q9]
        by_cases hcn : (c : Int) < n
        · simp -implicitDefEqProofs (disch := first | omega | (simp only [St.set_n, St.up_n, List.length_cons, List.length_nil]; omega)) only [go_sem, Nat.reduceAdd, Nat.reduceMul, Nat.reduceSub, Int.reduceAdd, Int.reduceMul, Int.reduceSub, Int.reduceNeg, Int.reduceToNat, q1, q5, q6, q7, q8, q9, hcn]
          refine callF_of (ring_put hr (by omega) fun t' hr' hn' hk' => ?_)
          have hlen : (seqL G c).length < n0 := by rw [seqL_len]; omega
          simp only [if_pos hlen, hlen, decide_true] at hr' ⊢
          have e1 : (G : Int) + c = ((G + c : Nat) : Int) := by omega
          rw [e1, ← seqL_succ] at hr'
          simp -implicitDefEqProofs (disch := first | omega | (simp only [St.set_n, St.up_n, List.length_cons, List.length_nil]; omega)) only [go_sem, Nat.reduceAdd, Nat.reduceMul, Nat.reduceSub, Int.reduceAdd, Int.reduceMul, Int.reduceSub, Int.reduceNeg, Int.reduceToNat, q1, q5, q6, q7, q8, q9]
          refine ⟨n - (c + 1), by omega, c + 1, rfl, by omega, ?_⟩
          simp -implicitDefEqProofs (disch := first | omega | (simp only [St.set_n, St.up_n, List.length_cons, List.length_nil]; omega)) only [go_sem, Nat.reduceAdd, Nat.reduceMul, Nat.reduceSub, Int.reduceAdd, Int.reduceMul, Int.reduceSub, Int.reduceNeg, Int.reduceToNat, q1, q5, q6, q7, q8, q9, hd]
          simp only [Int.natCast_add, Int.cast_ofNat_Int, true_and]
          refine ⟨hr', fun d y hd' hy => ?_, by omega⟩
          rw [hk' d (by omega) (by omega)]
          exact hkeep d y hd' hy
        · simp -implicitDefEqProofs (disch := first | omega | (simp only [St.set_n, St.up_n, List.length_cons, List.length_nil]; omega)) only [go_sem, Nat.reduceAdd, Nat.reduceMul, Nat.reduceSub, Int.reduceAdd, Int.reduceMul, Int.reduceSub, Int.reduceNeg, Int.reduceToNat, q1, q5, q6, q7, q8, q9, hcn, hd]
          have : c = n := by omega
          subst this
          exact ⟨hr, hkeep, hkt⟩
      · clear hr
        rintro e t hwt ⟨q1, q5, q6, q7, q8, hd, hr, hkeep, hkt⟩
        simp -implicitDefEqProofs (disch := first | omega | (simp only [St.set_n, St.up_n, List.length_cons, List.length_nil]; omega)) only [go_sem, Nat.reduceAdd, Nat.reduceMul, Nat.reduceSub, Int.reduceAdd, Int.reduceMul, Int.reduceSub, Int.reduceNeg, Int.reduceToNat, q1, q5, q6, q7, q8]
        refine callF_of (ring_len hr ?_)
        rw [seqL_len]
        simp -implicitDefEqProofs (disch := first | omega | (simp only [St.set_n, St.up_n, List.length_cons, List.length_nil]; omega)) only [go_sem, Nat.reduceAdd, Nat.reduceMul, Nat.reduceSub, Int.reduceAdd, Int.reduceMul, Int.reduceSub, Int.reduceNeg, Int.reduceToNat, q1, q5, q6, q7, q8]
        refine callF_of (ring_cap hr ?_)
        by_cases hnn : (n : Int) = n0
        · simp -implicitDefEqProofs (disch := first | omega | (simp only [St.set_n, St.up_n, List.length_cons, List.length_nil]; omega)) only [go_sem, Nat.reduceAdd, Nat.reduceMul, Nat.reduceSub, Int.reduceAdd, Int.reduceMul, Int.reduceSub, Int.reduceNeg, Int.reduceToNat, q1, q5, q6, q7, q8, hnn]
          refine callF_of (ring_put hr (by omega) fun t1 hr1 hn1 hk1 => ?_)
          have hlen : ¬ (seqL G n).length < n0 := by rw [seqL_len]; omega
          simp only [if_neg hlen, hlen, decide_false, if_false] at hr1 ⊢
          simp -implicitDefEqProofs (disch := first | omega | (simp only [St.set_n, St.up_n, List.length_cons, List.length_nil]; omega)) only [go_sem, Nat.reduceAdd, Nat.reduceMul, Nat.reduceSub, Int.reduceAdd, Int.reduceMul, Int.reduceSub, Int.reduceNeg, Int.reduceToNat, q1, q5, q6, q7, q8]
          refine loop_rule' (fun m e t => ∃ (c : Nat), m = n - c ∧ c ≤ n ∧ e.v 1 = .slice (some ⟨b, o, none⟩) l.length cap ∧ e.v 5 = .pointer (some ⟨k + 1, 0, none⟩) ∧ e.v 6 = .int .i64 G ∧ e.v 7 = .int .i64 i ∧ e.v 8 = .int .i64 n ∧ e.v 10 = .int .i64 c ∧ e.d = [] ∧
            IsRing t (k + 1) k n0 (seqL (G + c) (n - c)) (G + c) (IntKind.i64.wrap (D + 1)) ∧ (∀ c x, c < σ.n → σ.m c = some x → t.m c = some x) ∧ k ≤ t.n) n 4
            (fun e t => e.v 1 = .slice (some ⟨b, o, none⟩) l.length cap ∧ e.v 5 = .pointer (some ⟨k + 1, 0, none⟩) ∧ e.v 6 = .int .i64 G ∧ e.v 7 = .int .i64 i ∧ e.v 8 = .int .i64 n ∧ e.d = [] ∧
            IsRing t (k + 1) k n0 [] (G + n) (IntKind.i64.wrap (D + 1)) ∧ (∀ c x, c < σ.n → σ.m c = some x → t.m c = some x) ∧ k ≤ t.n) ?_ ?_ ?_
          · refine ⟨0, by omega, by omega, ?_⟩
            simp -implicitDefEqProofs (disch := first | omega | (simp only [St.set_n, St.up_n, List.length_cons, List.length_nil]; omega)) only [go_sem, Nat.reduceAdd, Nat.reduceMul, Nat.reduceSub, Int.reduceAdd, Int.reduceMul, Int.reduceSub, Int.reduceNeg, Int.reduceToNat, q1, q5, q6, q7, q8, hd]
            simp only [Nat.sub_zero, Int.cast_ofNat_Int, true_and]
            exact ⟨hr1, fun d y hd' hy => by rw [hk1 d (by omega) (by omega)]; exact hkeep d y hd' hy, by omega⟩
          · rintro m e t hwt ⟨c, hm, hc, q1, q5, q6, q7, q8, q10, hd, hr, hkeep, hkt⟩
            simp -implicitDefEqProofs (disch := first | omega | (simp only [St.set_n, St.up_n, List.length_cons, List.length_nil]; omega)) only [go_sem, Nat.reduceAdd, Nat.reduceMul, Nat.reduceSub, Int.reduceAdd, Int.reduceMul, Int.reduceSub, Int.reduceNeg, Int.reduceToNat, q1, q5, q6, q7, q8, q10]
            by_cases hcn : (c : Int) < n
            · have e2 : seqL (G + c) (n - c) = ((G + c : Nat) : Int) :: seqL (G + (c + 1)) (n - (c + 1)) := by
                have : n - c = (n - (c + 1)) + 1 := by omega
                rw [this, seqL_cons]; rfl
              have e3 : (G : Int) + c = ((G + c : Nat) : Int) := by omega
              rw [e2] at hr
              simp -implicitDefEqProofs (disch := first | omega | (simp only [St.set_n, St.up_n, List.length_cons, List.length_nil]; omega)) only [go_sem, Nat.reduceAdd, Nat.reduceMul, Nat.reduceSub, Int.reduceAdd, Int.reduceMul, Int.reduceSub, Int.reduceNeg, Int.reduceToNat, q1, q5, q6, q7, q8, q10, hcn]
              refine callF_of (ring_get hr (by omega) fun t' hr' hn' hk' => ?_)
              simp only [List.tail_cons, List.length_cons, Nat.add_eq_zero_iff, Nat.one_ne_zero, and_false, if_false] at hr'
              have e4 : (((G + c : Nat) : Int) :: seqL (G + (c + 1)) (n - (c + 1))).getD 0 0 = ((G + c : Nat) : Int) := rfl
              have e5 : decide (¬ (((G + c : Nat) : Int) :: seqL (G + (c + 1)) (n - (c + 1))).length = 0) = true := by simp
              rw [e4, e5]
              simp -implicitDefEqProofs (disch := first | omega | (simp only [St.set_n, St.up_n, List.length_cons, List.length_nil]; omega)) only [go_sem, Nat.reduceAdd, Nat.reduceMul, Nat.reduceSub, Int.reduceAdd, Int.reduceMul, Int.reduceSub, Int.reduceNeg, Int.reduceToNat, q1, q5, q6, q7, q8, q10, e3]
              refine ⟨n - (c + 1), by omega, c + 1, rfl, by omega, ?_⟩
              simp -implicitDefEqProofs (disch := first | omega | (simp only [St.set_n, St.up_n, List.length_cons, List.length_nil]; omega)) only [go_sem, Nat.reduceAdd, Nat.reduceMul, Nat.reduceSub, Int.reduceAdd, Int.reduceMul, Int.reduceSub, Int.reduceNeg, Int.reduceToNat, q1, q5, q6, q7, q8, q10, hd]
              simp only [Int.natCast_add, Int.cast_ofNat_Int, true_and]
              refine ⟨hr', fun d y hd' hy => ?_, by omega⟩
              rw [hk' d (by omega) (by omega)]
              exact hkeep d y hd' hy
            · simp -implicitDefEqProofs (disch := first | omega | (simp only [St.set_n, St.up_n, List.length_cons, List.length_nil]; omega)) only [go_sem, Nat.reduceAdd, Nat.reduceMul, Nat.reduceSub, Int.reduceAdd, Int.reduceMul, Int.reduceSub, Int.reduceNeg, Int.reduceToNat, q1, q5, q6, q7, q8, q10, hcn, hd]
              have : c = n := by omega
              subst this
              rw [Nat.sub_self] at hr
              exact ⟨hr, hkeep, hkt⟩
          · rintro e t hwt ⟨q1, q5, q6, q7, q8, hd, hr, hkeep, hkt⟩
            simp -implicitDefEqProofs (disch := first | omega | (simp only [St.set_n, St.up_n, List.length_cons, List.length_nil]; omega)) only [go_sem, Nat.reduceAdd, Nat.reduceMul, Nat.reduceSub, Int.reduceAdd, Int.reduceMul, Int.reduceSub, Int.reduceNeg, Int.reduceToNat, q1, q5, q6, q7, q8]
            refine callF_of (ring_get hr (by omega) fun t' hr' hn' hk' => ?_)
            have e5 : decide (¬ ([] : List Int).length = 0) = false := by simp
            rw [e5]
            simp only [List.tail_nil, List.length_nil, if_true] at hr'
            simp -implicitDefEqProofs (disch := first | omega | (simp only [St.set_n, St.up_n, List.length_cons, List.length_nil]; omega)) only [go_sem, Nat.reduceAdd, Nat.reduceMul, Nat.reduceSub, Int.reduceAdd, Int.reduceMul, Int.reduceSub, Int.reduceNeg, Int.reduceToNat, q1, q5, q6, q7, q8]
            refine ⟨l.length - (i + 1), by omega, i + 1, G + n, (IntKind.i64.wrap (D + 1)), rfl, by omega, by omega, ?_⟩
            simp -implicitDefEqProofs (disch := first | omega | (simp only [St.set_n, St.up_n, List.length_cons, List.length_nil]; omega)) only [go_sem, Nat.reduceAdd, Nat.reduceMul, Nat.reduceSub, Int.reduceAdd, Int.reduceMul, Int.reduceSub, Int.reduceNeg, Int.reduceToNat, q1, q5, q6, q7, q8, hd]
            simp only [Int.natCast_add, Int.cast_ofNat_Int, true_and]
            refine ⟨hr', fun d y hd' hy => ?_, by omega⟩
            rw [hk' d (by omega) (by omega)]
            exact hkeep d y hd' hy
        · simp -implicitDefEqProofs (disch := first | omega | (simp only [St.set_n, St.up_n, List.length_cons, List.length_nil]; omega)) only [go_sem, Nat.reduceAdd, Nat.reduceMul, Nat.reduceSub, Int.reduceAdd, Int.reduceMul, Int.reduceSub, Int.reduceNeg, Int.reduceToNat, q1, q5, q6, q7, q8, hnn]
          refine loop_rule' (fun m e t => ∃ (c : Nat), m = n - c ∧ c ≤ n ∧ e.v 1 = .slice (some ⟨b, o, none⟩) l.length cap ∧ e.v 5 = .pointer (some ⟨k + 1, 0, none⟩) ∧ e.v 6 = .int .i64 G ∧ e.v 7 = .int .i64 i ∧ e.v 8 = .int .i64 n ∧ e.v 10 = .int .i64 c ∧ e.d = [] ∧
            IsRing t (k + 1) k n0 (seqL (G + c) (n - c)) (G + c) D ∧ (∀ c x, c < σ.n → σ.m c = some x → t.m c = some x) ∧ k ≤ t.n) n 4
            (fun e t => e.v 1 = .slice (some ⟨b, o, none⟩) l.length cap ∧ e.v 5 = .pointer (some ⟨k + 1, 0, none⟩) ∧ e.v 6 = .int .i64 G ∧ e.v 7 = .int .i64 i ∧ e.v 8 = .int .i64 n ∧ e.d = [] ∧
            IsRing t (k + 1) k n0 [] (G + n) D ∧ (∀ c x, c < σ.n → σ.m c = some x → t.m c = some x) ∧ k ≤ t.n) ?_ ?_ ?_
          · refine ⟨0, by omega, by omega, ?_⟩
            simp -implicitDefEqProofs (disch := first | omega | (simp only [St.set_n, St.up_n, List.length_cons, List.length_nil]; omega)) only [go_sem, Nat.reduceAdd, Nat.reduceMul, Nat.reduceSub, Int.reduceAdd, Int.reduceMul, Int.reduceSub, Int.reduceNeg, Int.reduceToNat, q1, q5, q6, q7, q8, hd]
            simp only [Nat.sub_zero, Int.cast_ofNat_Int, true_and]
            exact ⟨hr, hkeep, hkt⟩
          · rintro m e t hwt ⟨c, hm, hc, q1, q5, q6, q7, q8, q10, hd, hr, hkeep, hkt⟩
            simp -implicitDefEqProofs (disch := first | omega | (simp only [St.set_n, St.up_n, List.length_cons, List.length_nil]; omega)) only [go_sem, Nat.reduceAdd, Nat.reduceMul, Nat.reduceSub, Int.reduceAdd, Int.reduceMul, Int.reduceSub, Int.reduceNeg, Int.reduceToNat, q1, q5, q6, q7, q8, q10]
            by_cases hcn : (c : Int) < n
            · have e2 : seqL (G + c) (n - c) = ((G + c : Nat) : Int) :: seqL (G + (c + 1)) (n - (c + 1)) := by
                have : n - c = (n - (c + 1)) + 1 := by omega
                rw [this, seqL_cons]; rfl
              have e3 : (G : Int) + c = ((G + c : Nat) : Int) := by omega
              rw [e2] at hr
              simp -implicitDefEqProofs (disch := first | omega | (simp only [St.set_n, St.up_n, List.length_cons, List.length_nil]; omega)) only [go_sem, Nat.reduceAdd, Nat.reduceMul, Nat.reduceSub, Int.reduceAdd, Int.reduceMul, Int.reduceSub, Int.reduceNeg, Int.reduceToNat, q1, q5, q6, q7, q8, q10, hcn]
              refine callF_of (ring_get hr (by omega) fun t' hr' hn' hk' => ?_)
              simp only [List.tail_cons, List.length_cons, Nat.add_eq_zero_iff, Nat.one_ne_zero, and_false, if_false] at hr'
              have e4 : (((G + c : Nat) : Int) :: seqL (G + (c + 1)) (n - (c + 1))).getD 0 0 = ((G + c : Nat) : Int) := rfl
              have e5 : decide (¬ (((G + c : Nat) : Int) :: seqL (G + (c + 1)) (n - (c + 1))).length = 0) = true := by simp
              rw [e4, e5]
              simp -implicitDefEqProofs (disch := first | omega | (simp only [St.set_n, St.up_n, List.length_cons, List.length_nil]; omega)) only [go_sem, Nat.reduceAdd, Nat.reduceMul, Nat.reduceSub, Int.reduceAdd, Int.reduceMul, Int.reduceSub, Int.reduceNeg, Int.reduceToNat, q1, q5, q6, q7, q8, q10, e3]
              refine ⟨n - (c + 1), by omega, c + 1, rfl, by omega, ?_⟩
              simp -implicitDefEqProofs (disch := first | omega | (simp only [St.set_n, St.up_n, List.length_cons, List.length_nil]; omega)) only [go_sem, Nat.reduceAdd, Nat.reduceMul, Nat.reduceSub, Int.reduceAdd, Int.reduceMul, Int.reduceSub, Int.reduceNeg, Int.reduceToNat, q1, q5, q6, q7, q8, q10, hd]
              simp only [Int.natCast_add, Int.cast_ofNat_Int, true_and]
              refine ⟨hr', fun d y hd' hy => ?_, by omega⟩
              rw [hk' d (by omega) (by omega)]
              exact hkeep d y hd' hy
            · simp -implicitDefEqProofs (disch := first | omega | (simp only [St.set_n, St.up_n, List.length_cons, List.length_nil]; omega)) only [go_sem, Nat.reduceAdd, Nat.reduceMul, Nat.reduceSub, Int.reduceAdd, Int.reduceMul, Int.reduceSub, Int.reduceNeg, Int.reduceToNat, q1, q5, q6, q7, q8, q10, hcn, hd]
              have : c = n := by omega
              subst this
              rw [Nat.sub_self] at hr
              exact ⟨hr, hkeep, hkt⟩
          · rintro e t hwt ⟨q1, q5, q6, q7, q8, hd, hr, hkeep, hkt⟩
            simp -implicitDefEqProofs (disch := first | omega | (simp only [St.set_n, St.up_n, List.length_cons, List.length_nil]; omega)) only [go_sem, Nat.reduceAdd, Nat.reduceMul, Nat.reduceSub, Int.reduceAdd, Int.reduceMul, Int.reduceSub, Int.reduceNeg, Int.reduceToNat, q1, q5, q6, q7, q8]
            refine callF_of (ring_get hr (by omega) fun t' hr' hn' hk' => ?_)
            have e5 : decide (¬ ([] : List Int).length = 0) = false := by simp
            rw [e5]
            simp only [List.tail_nil, List.length_nil, if_true] at hr'
            simp -implicitDefEqProofs (disch := first | omega | (simp only [St.set_n, St.up_n, List.length_cons, List.length_nil]; omega)) only [go_sem, Nat.reduceAdd, Nat.reduceMul, Nat.reduceSub, Int.reduceAdd, Int.reduceMul, Int.reduceSub, Int.reduceNeg, Int.reduceToNat, q1, q5, q6, q7, q8]
            refine ⟨l.length - (i + 1), by omega, i + 1, G + n, D, rfl, by omega, by omega, ?_⟩
            simp -implicitDefEqProofs (disch := first | omega | (simp only [St.set_n, St.up_n, List.length_cons, List.length_nil]; omega)) only [go_sem, Nat.reduceAdd, Nat.reduceMul, Nat.reduceSub, Int.reduceAdd, Int.reduceMul, Int.reduceSub, Int.reduceNeg, Int.reduceToNat, q1, q5, q6, q7, q8, hd]
            simp only [Int.natCast_add, Int.cast_ofNat_Int, true_and]
            refine ⟨hr', fun d y hd' hy => ?_, by omega⟩
            rw [hk' d (by omega) (by omega)]
            exact hkeep d y hd' hy
    · simp -implicitDefEqProofs (disch := first | omega | (simp only [St.set_n, St.up_n, List.length_cons, List.length_nil]; omega)) only [go_sem, Nat.reduceAdd, Nat.reduceMul, Nat.reduceSub, Int.reduceAdd, Int.reduceMul, Int.reduceSub, Int.reduceNeg, Int.reduceToNat, q1, q5, q6, q7, hlt, hd]
      exact ⟨_, _, hr, hkeep, hkt⟩
  · rintro e t hwt ⟨G, D, q5, hd, hr, hkeep, hkt⟩
    simp -implicitDefEqProofs (disch := first | omega | (simp only [St.set_n, St.up_n, List.length_cons, List.length_nil]; omega)) only [go_sem, Nat.reduceAdd, Nat.reduceMul, Nat.reduceSub, Int.reduceAdd, Int.reduceMul, Int.reduceSub, Int.reduceNeg, Int.reduceToNat, q5]
    refine callF_of (ring_len hr ?_)
    simp -implicitDefEqProofs (disch := first | omega | (simp only [St.set_n, St.up_n, List.length_cons, List.length_nil]; omega)) only [go_sem, Nat.reduceAdd, Nat.reduceMul, Nat.reduceSub, Int.reduceAdd, Int.reduceMul, Int.reduceSub, Int.reduceNeg, Int.reduceToNat, hd]
    refine ⟨_, To.same (fun d y h2 h3 => hkeep d y h2 h3) hwf, ?_⟩
    exact hK _ (by (try simp only [St.up_n, St.set_n, leftAs] at *); omega)
end
end Go.Proofs.Ytbjgoajdfdonfaa
