/- A ring's sequence numbers, and the document's own ring: contracts, by walks. -/
import Derived.Test.YtbjgoajdfdonfaaAll11
namespace Go.Proofs.Ytbjgoajdfdonfaa
set_option linter.unusedSimpArgs false
set_option linter.unusedVariables false
set_option maxRecDepth 100000
open Go Go.RowKit

/-- How many tickets below 'P' a slot had. -/
def cnt (P n j : Nat) : Nat := if j < P then (P - j - 1) / n + 1 else 0
theorem cnt_ticket {G n j : Nat} (hj : j < n) : G + dist G n j = j + cnt G n j * n := by
  have hn : 0 < n := by omega
  unfold cnt
  by_cases h : j < G
  · rw [if_pos h]
    have hd := Nat.div_add_mod (G - j - 1) n
    have hm := Nat.mod_lt (G - j - 1) hn
    have e1 : ((G - j - 1) / n + 1) * n = n * ((G - j - 1) / n) + n := by rw [Nat.add_mul, Nat.one_mul, Nat.mul_comm]
    rw [e1]
    have hd2 : dist G n j = j + (n * ((G - j - 1) / n) + n) - G := by
      refine dist_uniq hj (by omega) ?_
      have : G + (j + (n * ((G - j - 1) / n) + n) - G) = j + n * ((G - j - 1) / n + 1) := by rw [Nat.mul_add]; omega
      rw [this, Nat.add_mul_mod_self_left, Nat.mod_eq_of_lt hj]
    rw [hd2]; omega
  · rw [if_neg h, Nat.zero_mul]
    have : dist G n j = j - G := dist_uniq hj (by omega) (by rw [show G + (j - G) = j by omega, Nat.mod_eq_of_lt hj])
    omega
theorem cnt_lt {G P n j : Nat} (hj : j < n) : cnt G n j < cnt P n j ↔ j + cnt G n j * n < P := by
  have hn : 0 < n := by omega
  generalize cnt G n j = g
  unfold cnt
  by_cases h : j < P
  · rw [if_pos h, Nat.lt_succ_iff, Nat.le_div_iff_mul_le hn]; omega
  · rw [if_neg h]; omega
def seqOf (L : List Int) (G n : Nat) (t : Int) : Int := if 0 ≤ t ∧ t < n then (slotAt L G n t.toNat).2 else -1
theorem seq_eq {L : List Int} {G n j : Nat} (hj : j < n) : (slotAt L G n j).2 = if cnt G n j < cnt (G + L.length) n j then 2 * ((j : Int) + ((cnt G n j * n : Nat) : Int)) + 1 else 2 * ((j : Int) + ((cnt G n j * n : Nat) : Int)) := by
  have h1 := cnt_ticket (G := G) hj
  have h2 := cnt_lt (G := G) (P := G + L.length) hj
  unfold slotAt
  by_cases h : dist G n j < L.length
  · rw [if_pos h, if_pos (h2.2 (by omega))]; simp only; omega
  · rw [if_neg h, if_neg (fun h3 => h (by have := h2.1 h3; omega))]; simp only; omega
theorem quo_nat {P n j : Nat} (h : j < P) : ((P : Int) - j - 1).tdiv n = (((P - j - 1) / n : Nat) : Int) := by
  have e : (P : Int) - j - 1 = ((P - j - 1 : Nat) : Int) := by omega
  rw [e, Int.tdiv_eq_ediv_of_nonneg (by omega), Int.natCast_ediv]
section
variable {B : World} {σ : St} {K : Value → St → Prop}

theorem ring_seq {r b n G : Nat} {L : List Int} {D t : Int} (h : IsRing σ r b n L G D) (hK : K (.int .i64 (seqOf L G n t)) σ) : Fn Try.prog B 70 #[.pointer (some ⟨r, 0, none⟩), .int .i64 t] σ K := by
  have hr := h.root
  have hb := h.row
  have hlen : (flat fSl (slots L G n)).length = n * 2 := by rw [flat_length fSl_len, slots_len]
  unfold seqOf at hK
  refine Fn.of is70 (by simp) fun hwf => ?_
  simp only [b70, Try.f70, Option.getD_some]
  by_cases h0 : t < 0
  · rw [if_neg (by omega)] at hK
    simp -implicitDefEqProofs (disch := first | omega | (simp only [St.set_n, St.up_n, List.length_cons, List.length_nil]; omega)) only [go_sem, Nat.reduceAdd, Nat.reduceMul, Nat.reduceSub, Int.reduceAdd, Int.reduceMul, Int.reduceSub, Int.reduceNeg, Int.reduceToNat, h0]
    exact hK
  · obtain ⟨j, rfl⟩ : ∃ j : Nat, t = (j : Int) := ⟨t.toNat, by omega⟩
    by_cases h1 : (n : Int) ≤ j
    · rw [if_neg (by omega)] at hK
      simp -implicitDefEqProofs (disch := first | omega | (simp only [St.set_n, St.up_n, List.length_cons, List.length_nil]; omega)) only [go_sem, Nat.reduceAdd, Nat.reduceMul, Nat.reduceSub, Int.reduceAdd, Int.reduceMul, Int.reduceSub, Int.reduceNeg, Int.reduceToNat, hr, h0, h1]
      exact hK
    · rw [if_pos (by omega)] at hK
      have hs := slots_get (L := L) (G := G) (n := n) (j := j) (by omega)
      obtain ⟨c0, c1⟩ := slot_cells hs
      simp -implicitDefEqProofs (disch := first | omega | (simp only [St.set_n, St.up_n, List.length_cons, List.length_nil]; omega)) only [go_sem, Nat.reduceAdd, Nat.reduceMul, Nat.reduceSub, Int.reduceAdd, Int.reduceMul, Int.reduceSub, Int.reduceNeg, Int.reduceToNat, hr, hb, h0, h1, hlen, c1]
      exact hK

/-- The document's ring in memory. -/
structure IsRR (σ : St) (p n : Nat) (w : Value) (L : List Int) (G : Nat) (D : Int) : Prop where
  pos : 0 < n
  big : n ≤ 1024
  full : L.length ≤ n
  low : G ≤ 1000000000000
  root : σ.m p = some (.raw (.cells #[w, .int .i64 (G + L.length : Nat), .int .i64 G, .int .i64 D, .int .i64 n] 103 (0, 0)))
  own : Own σ 3 1 (ints L) L.length w
  ne : blk w ≠ some p
theorem refr_new {s : Int} (hK : ∀ τ, IsRR τ σ.n (ringN s) (.slice none 0 0) [] 0 0 → τ.n = σ.n + 1 → (∀ c x, c < σ.n → σ.m c = some x → τ.m c = some x) → K (.pointer (some ⟨σ.n, 0, none⟩)) τ) : Fn Try.prog B 67 #[.int .i64 s] σ K := by
  have hN : ((ringN s : Nat) : Int) = max 1 (min s 1024) := by unfold ringN; omega
  have hN1 : 0 < ringN s := by unfold ringN; omega
  have hN2 : ringN s ≤ 1024 := by unfold ringN; omega
  refine Fn.of is67 (by simp) fun hwf => ?_
  simp only [b67, Try.f67, Option.getD_some]
  simp -implicitDefEqProofs (disch := first | omega | (simp only [St.set_n, St.up_n, List.length_cons, List.length_nil]; omega)) only [go_sem, Nat.reduceAdd, Nat.reduceMul, Nat.reduceSub, Int.reduceAdd, Int.reduceMul, Int.reduceSub, Int.reduceNeg, Int.reduceToNat, ← hN]
  refine hK _ ⟨hN1, hN2, by simp, by omega, by simp -implicitDefEqProofs (disch := first | omega | (simp only [St.set_n, St.up_n, List.length_cons, List.length_nil]; omega)) only [go_sem, Nat.reduceAdd, Nat.reduceMul, Nat.reduceSub, Int.reduceAdd, Int.reduceMul, Int.reduceSub, Int.reduceNeg, Int.reduceToNat]; simp, Own.nil, by simp [blk]⟩ (by simp -implicitDefEqProofs (disch := first | omega | (simp only [St.set_n, St.up_n, List.length_cons, List.length_nil]; omega)) only [go_sem, Nat.reduceAdd, Nat.reduceMul, Nat.reduceSub, Int.reduceAdd, Int.reduceMul, Int.reduceSub, Int.reduceNeg, Int.reduceToNat]) fun c x hc hx => by simp -implicitDefEqProofs (disch := first | omega | (simp only [St.set_n, St.up_n, List.length_cons, List.length_nil]; omega)) only [go_sem, Nat.reduceAdd, Nat.reduceMul, Nat.reduceSub, Int.reduceAdd, Int.reduceMul, Int.reduceSub, Int.reduceNeg, Int.reduceToNat, hx]
theorem refr_put {p n G : Nat} {w : Value} {L : List Int} {D x : Int} (h : IsRR σ p n w L G D) (hG : G + n ≤ 1000000000000)
    (hK : ∀ τ w', IsRR τ p n w' (if L.length < n then L ++ [x] else L) G (if L.length < n then D else IntKind.i64.wrap (D + 1)) → (∀ c y, c ≠ p → blk w ≠ some c → σ.m c = some y → τ.m c = some y) → (∀ b, blk w' = some b → σ.n ≤ b ∨ blk w = some b) → σ.n ≤ τ.n → K (.bool (decide (L.length < n))) τ) :
    Fn Try.prog B 68 #[.pointer (some ⟨p, 0, none⟩), .int .i64 x] σ K := by
  have hr := h.root
  have hn := h.pos
  have h1 := h.full
  have h2 := h.low
  have h3 := h.big
  refine Fn.of is68 (by simp) fun hwf => ?_
  have hpn := (hwf.2 _ _ hr).2
  obtain ⟨A, cap, rfl, hcap⟩ := h.own.is
  simp only [b68, Try.f68, Option.getD_some]
  by_cases hlt : L.length < n
  · have hlt' : ¬ (n : Int) ≤ L.length := by omega
    simp only [if_pos hlt, hlt, decide_true] at hK
    simp -implicitDefEqProofs (disch := first | omega | (simp only [St.set_n, St.up_n, List.length_cons, List.length_nil]; omega)) only [go_sem, Nat.reduceAdd, Nat.reduceMul, Nat.reduceSub, Int.reduceAdd, Int.reduceMul, Int.reduceSub, Int.reduceNeg, Int.reduceToNat, hr, hlt']
    refine appF_one (sz := 1) (bts := 8) (cs := ints L) (ys := [.int .i64 x]) hwf h.own se43 kd43 zr3 rfl (by omega) rfl rfl (by omega) fun A' C' t1 hC' o1 hw1 hk1 hm1 hb1 hn1 => ?_
    have hroot := hm1 p _ hr h.ne
    simp -implicitDefEqProofs (disch := first | omega | (simp only [St.set_n, St.up_n, List.length_cons, List.length_nil]; omega)) only [go_sem, Nat.reduceAdd, Nat.reduceMul, Nat.reduceSub, Int.reduceAdd, Int.reduceMul, Int.reduceSub, Int.reduceNeg, Int.reduceToNat, hroot]
    have hne' : blk (.slice A' (L.length + 1) C') ≠ some p := fun e => by
      rcases hb1 p e with h' | h'
      · omega
      · exact h.ne h'
    refine hK _ (.slice A' (L.length + 1) C') ⟨hn, h3, by simp; omega, h2, by simp -implicitDefEqProofs (disch := first | omega | (simp only [St.set_n, St.up_n, List.length_cons, List.length_nil]; omega)) only [go_sem, Nat.reduceAdd, Nat.reduceMul, Nat.reduceSub, Int.reduceAdd, Int.reduceMul, Int.reduceSub, Int.reduceNeg, Int.reduceToNat]; simp; omega, ?_, hne'⟩ (fun c y hc hcw hy => ?_) (fun b hb => hb1 b hb) (by simp -implicitDefEqProofs (disch := first | omega | (simp only [St.set_n, St.up_n, List.length_cons, List.length_nil]; omega)) only [go_sem, Nat.reduceAdd, Nat.reduceMul, Nat.reduceSub, Int.reduceAdd, Int.reduceMul, Int.reduceSub, Int.reduceNeg, Int.reduceToNat]; omega)
    · have e1 : ints (L ++ [x]) = ints L ++ [.int .i64 x] := by simp [ints]
      have e2 : (L ++ [x]).length = L.length + 1 := by simp
      simp only [if_true]
      rw [e1, e2]
      refine o1.keepR fun b o hb ho => ?_
      have : b ≠ p := fun e => hne' (e ▸ hb)
      simp -implicitDefEqProofs (disch := first | omega | (simp only [St.set_n, St.up_n, List.length_cons, List.length_nil]; omega)) only [go_sem, Nat.reduceAdd, Nat.reduceMul, Nat.reduceSub, Int.reduceAdd, Int.reduceMul, Int.reduceSub, Int.reduceNeg, Int.reduceToNat, ho]
    · have := hm1 c y hy hcw
      simp -implicitDefEqProofs (disch := first | omega | (simp only [St.set_n, St.up_n, List.length_cons, List.length_nil]; omega)) only [go_sem, Nat.reduceAdd, Nat.reduceMul, Nat.reduceSub, Int.reduceAdd, Int.reduceMul, Int.reduceSub, Int.reduceNeg, Int.reduceToNat, this]
  · have hlt' : (n : Int) ≤ L.length := by omega
    simp only [if_neg hlt, hlt, decide_false] at hK
    simp -implicitDefEqProofs (disch := first | omega | (simp only [St.set_n, St.up_n, List.length_cons, List.length_nil]; omega)) only [go_sem, Nat.reduceAdd, Nat.reduceMul, Nat.reduceSub, Int.reduceAdd, Int.reduceMul, Int.reduceSub, Int.reduceNeg, Int.reduceToNat, hr, hlt']
    refine hK _ _ ⟨hn, h3, h1, h2, by simp -implicitDefEqProofs (disch := first | omega | (simp only [St.set_n, St.up_n, List.length_cons, List.length_nil]; omega)) only [go_sem, Nat.reduceAdd, Nat.reduceMul, Nat.reduceSub, Int.reduceAdd, Int.reduceMul, Int.reduceSub, Int.reduceNeg, Int.reduceToNat], h.own.keepR fun b o hb ho => ?_, h.ne⟩ (fun c y hc hcw hy => by simp -implicitDefEqProofs (disch := first | omega | (simp only [St.set_n, St.up_n, List.length_cons, List.length_nil]; omega)) only [go_sem, Nat.reduceAdd, Nat.reduceMul, Nat.reduceSub, Int.reduceAdd, Int.reduceMul, Int.reduceSub, Int.reduceNeg, Int.reduceToNat, hy]) (fun b hb => .inr hb) (Nat.le_refl _)
    have : b ≠ p := fun e => h.ne (e ▸ hb)
    simp -implicitDefEqProofs (disch := first | omega | (simp only [St.set_n, St.up_n, List.length_cons, List.length_nil]; omega)) only [go_sem, Nat.reduceAdd, Nat.reduceMul, Nat.reduceSub, Int.reduceAdd, Int.reduceMul, Int.reduceSub, Int.reduceNeg, Int.reduceToNat, ho]
theorem refr_get {p n G : Nat} {w : Value} {L : List Int} {D : Int} (h : IsRR σ p n w L G D) (hG : G + n ≤ 1000000000000)
    (hK : ∀ τ w', IsRR τ p n w' L.tail (if L.length = 0 then G else G + 1) D → (∀ c y, c ≠ p → σ.m c = some y → τ.m c = some y) → (∀ b, blk w' = some b → σ.n ≤ b ∨ blk w = some b) → σ.n ≤ τ.n → K (.tuple #[.int .i64 (L.getD 0 0), .bool (decide (¬ L.length = 0))]) τ) :
    Fn Try.prog B 69 #[.pointer (some ⟨p, 0, none⟩)] σ K := by
  have hr := h.root
  have hn := h.pos
  have h1 := h.full
  have h2 := h.low
  have h3 := h.big
  refine Fn.of is69 (by simp) fun hwf => ?_
  have hpn := (hwf.2 _ _ hr).2
  simp only [b69, Try.f69, Option.getD_some]
  cases L with
  | nil =>
    obtain ⟨A, cap, rfl, hcap⟩ := h.own.is
    simp -implicitDefEqProofs (disch := first | omega | (simp only [St.set_n, St.up_n, List.length_cons, List.length_nil]; omega)) only [go_sem, Nat.reduceAdd, Nat.reduceMul, Nat.reduceSub, Int.reduceAdd, Int.reduceMul, Int.reduceSub, Int.reduceNeg, Int.reduceToNat, hr]
    simpa using hK σ (.slice A 0 cap) (by simpa using h) (fun c y _ hy => hy) (fun b hb => .inr hb) (Nat.le_refl _)
  | cons y L =>
    obtain ⟨b, cap, sp, rfl, hcap, hb, hbl, hil⟩ := h.own.has (by simp)
    have hbn := (hwf.2 _ _ hb).2
    have g0 : (ints (y :: L) ++ sp)[0]? = some (.int .i64 y) := rfl
    have hl0 : ¬ ((y :: L).length : Int) = 0 := by simp; omega
    have hl1 : (1 : Int) ≤ ((y :: L).length : Int) := by simp; omega
    have hl2 : (0 : Int) < ((y :: L).length : Int) := by omega
    have hbp : b ≠ p := fun e => h.ne (by simp [blk, e])
    simp -implicitDefEqProofs (disch := first | omega | (simp only [St.set_n, St.up_n, List.length_cons, List.length_nil]; omega)) only [go_sem, Nat.reduceAdd, Nat.reduceMul, Nat.reduceSub, Int.reduceAdd, Int.reduceMul, Int.reduceSub, Int.reduceNeg, Int.reduceToNat, hr, hb, g0, hl0, hl1, hl2]
    have o0 : Own ((σ.set σ.n (.raw (.cells #[] 3 (0, 0)))).up (σ.n + 1)) 3 1 (ints (y :: L)) (L.length + 1) (.slice (some ⟨b, 0, none⟩) (L.length + 1) cap) := h.own.keepR fun c o hc ho => by
      have := (hwf.2 _ _ ho).2
      simp -implicitDefEqProofs (disch := first | omega | (simp only [St.set_n, St.up_n, List.length_cons, List.length_nil]; omega)) only [go_sem, Nat.reduceAdd, Nat.reduceMul, Nat.reduceSub, Int.reduceAdd, Int.reduceMul, Int.reduceSub, Int.reduceNeg, Int.reduceToNat, ho]
    have od := own_drop (B := B) o0 (i := 1) (by omega)
    have hown0 : Own ((σ.set σ.n (.raw (.cells #[] 3 (0, 0)))).up (σ.n + 1)) 3 1 [] 0 (.slice (some ⟨σ.n, 0, none⟩) 0 0) := Own.of' (sp := []) (by simp) (by simp) (Nat.le_refl _) (by simp)
    refine app_own2 se43 (.inr kd43) zr3 rfl (by omega) hown0 od (by simp [ints]) (by simp [ints, Value.oneCell']) (by simp at h1; omega) fun v' σ' ha hb' hc' hn' => ?_
    have e1 : [] ++ (ints (y :: L)).drop (1 * 1) = ints L := by simp [ints]
    have e2 : 0 + (L.length + 1 - 1) = L.length := by omega
    rw [e1, e2] at ha
    simp only [St.up_n] at hb' hn'
    have hvn : ∀ c, blk v' = some c → σ.n ≤ c := fun c hc => by
      rcases hb' c hc with h' | h'
      · omega
      · simp only [blk, Option.some.injEq] at h'; omega
    have hkeep : ∀ c z, σ.m c = some z → σ'.m c = some z := fun c z hz => by
      have := (hwf.2 _ _ hz).2
      rw [hc' c fun e => by have := hvn c e; omega]
      simp -implicitDefEqProofs (disch := first | omega | (simp only [St.set_n, St.up_n, List.length_cons, List.length_nil]; omega)) only [go_sem, Nat.reduceAdd, Nat.reduceMul, Nat.reduceSub, Int.reduceAdd, Int.reduceMul, Int.reduceSub, Int.reduceNeg, Int.reduceToNat, hz]
    have hroot := hkeep p _ hr
    obtain ⟨A', C', rfl, hC'⟩ := ha.is
    simp only [List.length_cons] at hroot h1
    simp -implicitDefEqProofs (disch := first | omega | (simp only [St.set_n, St.up_n, List.length_cons, List.length_nil]; omega)) only [go_sem, Nat.reduceAdd, Nat.reduceMul, Nat.reduceSub, Int.reduceAdd, Int.reduceMul, Int.reduceSub, Int.reduceNeg, Int.reduceToNat, hroot]
    have hne' : blk (.slice A' L.length C') ≠ some p := fun e => by have := hvn p e; omega
    have hnz : ¬ (y :: L).length = 0 := by simp
    simp only [hnz, if_false, not_false_eq_true, decide_true, List.getD_cons_zero, List.tail_cons] at hK
    refine hK _ (.slice A' L.length C') ⟨hn, h3, by omega, by omega, by simp -implicitDefEqProofs (disch := first | omega | (simp only [St.set_n, St.up_n, List.length_cons, List.length_nil]; omega)) only [go_sem, Nat.reduceAdd, Nat.reduceMul, Nat.reduceSub, Int.reduceAdd, Int.reduceMul, Int.reduceSub, Int.reduceNeg, Int.reduceToNat]; simp; omega, ha.keepR fun c o hc ho => ?_, hne'⟩ (fun c z hc hz => ?_) (fun c hc => .inl (hvn c hc)) (by simp -implicitDefEqProofs (disch := first | omega | (simp only [St.set_n, St.up_n, List.length_cons, List.length_nil]; omega)) only [go_sem, Nat.reduceAdd, Nat.reduceMul, Nat.reduceSub, Int.reduceAdd, Int.reduceMul, Int.reduceSub, Int.reduceNeg, Int.reduceToNat]; omega)
    · have : c ≠ p := fun e => hne' (e ▸ hc)
      simp -implicitDefEqProofs (disch := first | omega | (simp only [St.set_n, St.up_n, List.length_cons, List.length_nil]; omega)) only [go_sem, Nat.reduceAdd, Nat.reduceMul, Nat.reduceSub, Int.reduceAdd, Int.reduceMul, Int.reduceSub, Int.reduceNeg, Int.reduceToNat, ho]
    · have := hkeep c z hz
      simp -implicitDefEqProofs (disch := first | omega | (simp only [St.set_n, St.up_n, List.length_cons, List.length_nil]; omega)) only [go_sem, Nat.reduceAdd, Nat.reduceMul, Nat.reduceSub, Int.reduceAdd, Int.reduceMul, Int.reduceSub, Int.reduceNeg, Int.reduceToNat, this]
theorem refr_seq {p n G : Nat} {w : Value} {L : List Int} {D t : Int} (h : IsRR σ p n w L G D) (hK : K (.int .i64 (seqOf L G n t)) σ) : Fn Try.prog B 71 #[.pointer (some ⟨p, 0, none⟩), .int .i64 t] σ K := by
  have hr := h.root
  have hn := h.pos
  have h1 := h.full
  have h2 := h.low
  have h3 := h.big
  unfold seqOf at hK
  refine Fn.of is71 (by simp) fun hwf => ?_
  simp only [b71, Try.f71, Option.getD_some]
  by_cases h0 : t < 0
  · rw [if_neg (by omega)] at hK
    simp -implicitDefEqProofs (disch := first | omega | (simp only [St.set_n, St.up_n, List.length_cons, List.length_nil]; omega)) only [go_sem, Nat.reduceAdd, Nat.reduceMul, Nat.reduceSub, Int.reduceAdd, Int.reduceMul, Int.reduceSub, Int.reduceNeg, Int.reduceToNat, h0]
    exact hK
  obtain ⟨j, rfl⟩ : ∃ j : Nat, t = (j : Int) := ⟨t.toNat, by omega⟩
  by_cases h4 : (n : Int) ≤ j
  · rw [if_neg (by omega)] at hK
    simp -implicitDefEqProofs (disch := first | omega | (simp only [St.set_n, St.up_n, List.length_cons, List.length_nil]; omega)) only [go_sem, Nat.reduceAdd, Nat.reduceMul, Nat.reduceSub, Int.reduceAdd, Int.reduceMul, Int.reduceSub, Int.reduceNeg, Int.reduceToNat, hr, h0, h4]
    exact hK
  have hj : j < n := by omega
  have hn0 : ¬ (n : Int) = 0 := by omega
  rw [if_pos (by omega), Int.toNat_natCast, seq_eq hj] at hK
  have hle : j + cnt G n j * n ≤ 2000000000000 := by
    have := cnt_ticket (G := G) hj
    have := dist_lt (G := G) (j := j) (n := n) hn
    omega
  by_cases hp : j < G + L.length
  · have hq := quo_nat (n := n) hp
    have hc1 : cnt (G + L.length) n j = (G + L.length - j - 1) / n + 1 := by unfold cnt; rw [if_pos hp]
    have hb1 : (G + L.length - j - 1) / n ≤ G + L.length - j - 1 := Nat.div_le_self _ _
    rw [hc1] at hK
    generalize (G + L.length - j - 1) / n = q1 at hq hK hb1
    have hp' : (j : Int) < ((G + L.length : Nat) : Int) := by omega
    by_cases hg : j < G
    · have hq' := quo_nat (n := n) hg
      have hc2 : cnt G n j = (G - j - 1) / n + 1 := by unfold cnt; rw [if_pos hg]
      have hb2 : (G - j - 1) / n ≤ G - j - 1 := Nat.div_le_self _ _
      rw [hc2] at hK hle
      generalize (G - j - 1) / n = q2 at hq' hK hle hb2
      have hg' : (j : Int) < G := by omega
      have hmul : ((q2 : Int) + 1) * n = (((q2 + 1) * n : Nat) : Int) := by simp
      generalize (q2 + 1) * n = m at hmul hK hle
      by_cases hlt : (q2 : Int) + 1 < (q1 : Int) + 1
      · rw [if_pos (by omega)] at hK
        simp -implicitDefEqProofs (disch := first | omega | (simp only [St.set_n, St.up_n, List.length_cons, List.length_nil]; omega)) only [go_sem, Nat.reduceAdd, Nat.reduceMul, Nat.reduceSub, Int.reduceAdd, Int.reduceMul, Int.reduceSub, Int.reduceNeg, Int.reduceToNat, hr, h0, h4, hn0, hp', hg', hq, hq', hlt, hmul]
        exact hK
      · rw [if_neg (by omega)] at hK
        simp -implicitDefEqProofs (disch := first | omega | (simp only [St.set_n, St.up_n, List.length_cons, List.length_nil]; omega)) only [go_sem, Nat.reduceAdd, Nat.reduceMul, Nat.reduceSub, Int.reduceAdd, Int.reduceMul, Int.reduceSub, Int.reduceNeg, Int.reduceToNat, hr, h0, h4, hn0, hp', hg', hq, hq', hlt, hmul]
        exact hK
    · have hg' : ¬ (j : Int) < G := by omega
      have hc2 : cnt G n j = 0 := by unfold cnt; rw [if_neg hg]
      rw [hc2, if_pos (by omega), Nat.zero_mul] at hK
      have hpos : (0 : Int) < (q1 : Int) + 1 := by omega
      simp -implicitDefEqProofs (disch := first | omega | (simp only [St.set_n, St.up_n, List.length_cons, List.length_nil]; omega)) only [go_sem, Nat.reduceAdd, Nat.reduceMul, Nat.reduceSub, Int.reduceAdd, Int.reduceMul, Int.reduceSub, Int.reduceNeg, Int.reduceToNat, hr, h0, h4, hn0, hp', hg', hq, hpos, Int.zero_mul]
      simpa using hK
  · have hp' : ¬ (j : Int) < ((G + L.length : Nat) : Int) := by omega
    have hg' : ¬ (j : Int) < G := by omega
    have hc1 : cnt (G + L.length) n j = 0 := by unfold cnt; rw [if_neg hp]
    have hc2 : cnt G n j = 0 := by unfold cnt; rw [if_neg (by omega)]
    rw [hc1, hc2, if_neg (by omega), Nat.zero_mul] at hK
    simp -implicitDefEqProofs (disch := first | omega | (simp only [St.set_n, St.up_n, List.length_cons, List.length_nil]; omega)) only [go_sem, Nat.reduceAdd, Nat.reduceMul, Nat.reduceSub, Int.reduceAdd, Int.reduceMul, Int.reduceSub, Int.reduceNeg, Int.reduceToNat, hr, h0, h4, hn0, hp', hg', Int.zero_mul]
    simpa using hK
end
end Go.Proofs.Ytbjgoajdfdonfaa
