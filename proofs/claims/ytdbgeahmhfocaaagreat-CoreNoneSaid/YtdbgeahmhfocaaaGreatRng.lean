/- What a ring's functions come to: contracts, by walks. -/
import Derived.Test.YtdbgeahmhfocaaaGreatRngP
namespace Go.Proofs.YtdbgeahmhfocaaaGreat
set_option linter.unusedSimpArgs false
set_option linter.unusedVariables false
set_option maxRecDepth 100000
open Go Go.RowKit
section
variable {B : World} {σ : St} {K : Value → St → Prop}
structure IsRing (σ : St) (r b n : Nat) (L : List Mg) (G : Nat) (D : Int) : Prop where
  ne : r ≠ b
  pos : 0 < n
  big : n ≤ 1024
  full : L.length ≤ n
  low : G ≤ 1000000000000
  root : σ.m r = some (.raw (.cells #[.slice (some ⟨b, 0, none⟩) n n, .int .i64 (G + L.length : Nat), .int .i64 G, .int .i64 D] 149 (0, 0)))
  row : σ.m b = some (.raw (.cells (flat fSl (slots L G n)).toArray 151 (0, 0)))
theorem slot_cells {S : List (Mg × Int)} {i : Nat} {x : Mg × Int} (h : S[i]? = some x) :
    (flat fSl S).toArray[i * 4]? = some (.string x.1.topic) ∧ (flat fSl S).toArray[i * 4 + 1]? = some (.string x.1.pay) ∧ (flat fSl S).toArray[i * 4 + 2]? = some (.bool x.1.kept) ∧ (flat fSl S).toArray[i * 4 + 3]? = some (.int .i64 x.2) := by
  have h0 := flat_get fSl_len S [] i x 0 _ h rfl
  have h1 := flat_get fSl_len S [] i x 1 _ h rfl
  have h2 := flat_get fSl_len S [] i x 2 _ h rfl
  have h3 := flat_get fSl_len S [] i x 3 _ h rfl
  simp only [List.append_nil, Nat.add_zero] at h0 h1 h2 h3
  simp [h0, h1, h2, h3]
theorem get_setS {L : List (Mg × Int)} {i : Nat} {x y : Mg × Int} (h : L[i]? = some x) : (L.set i y)[i]? = some y := by
  have := (List.getElem?_eq_some_iff.1 h).1
  simp [this]
theorem flat_set0 {S : List (Mg × Int)} {i k j : Nat} {x x' : Mg × Int} {v : Value} (h : S[i]? = some x) (hj : j < 4) (hx : fSl x' = (fSl x).set j v) (hk : k = i * 4 + j) : (flat fSl S).set k v = flat fSl (S.set i x') := by
  subst hk
  have := flat_set fSl_len S [] i x x' j v h hj hx
  simpa using this
/-- A message is put into a slot. -/
theorem slot_msg {S : List (Mg × Int)} {i : Nat} {x : Mg × Int} (h : S[i]? = some x) (y : Mg) : (((flat fSl S).set (i * 4) (.string y.topic)).set (i * 4 + 1) (.string y.pay)).set (i * 4 + 1 + 1) (.bool y.kept) = flat fSl (S.set i (y, x.2)) := by
  have e0 : (flat fSl S).set (i * 4) (.string y.topic) = flat fSl (S.set i (⟨y.topic, x.1.pay, x.1.kept⟩, x.2)) := flat_set0 (j := 0) h (by omega) rfl rfl
  have e1 : (flat fSl (S.set i (⟨y.topic, x.1.pay, x.1.kept⟩, x.2))).set (i * 4 + 1) (.string y.pay) = flat fSl ((S.set i (⟨y.topic, x.1.pay, x.1.kept⟩, x.2)).set i (⟨y.topic, y.pay, x.1.kept⟩, x.2)) := flat_set0 (j := 1) (get_setS h) (by omega) rfl rfl
  have e2 : i * 4 + 1 + 1 = i * 4 + 2 := rfl
  have e3 : (flat fSl (S.set i (⟨y.topic, y.pay, x.1.kept⟩, x.2))).set (i * 4 + 2) (.bool y.kept) = flat fSl ((S.set i (⟨y.topic, y.pay, x.1.kept⟩, x.2)).set i (y, x.2)) := flat_set0 (j := 2) (get_setS h) (by omega) rfl rfl
  rw [e0, e1, e2, List.set_set, e3, List.set_set]
theorem slot_seq {S : List (Mg × Int)} {i : Nat} {x : Mg × Int} (h : S[i]? = some x) (v : Int) : (flat fSl S).set (i * 4 + 3) (.int .i64 v) = flat fSl (S.set i (x.1, v)) := flat_set0 h (by omega) rfl rfl
theorem ring_drops {r b n G : Nat} {L : List Mg} {D : Int} (h : IsRing σ r b n L G D) (hK : K (.int .i64 D) σ) : Fn Tryz.prog B 59 #[.pointer (some ⟨r, 0, none⟩)] σ K := by
  refine Fn.of is59 (by simp) fun hwf => ?_
  simp only [b59, Tryz.f59, Option.getD_some]
  have hr := h.root
  simp -implicitDefEqProofs (disch := first | omega | (simp only [St.set_n, St.up_n, List.length_cons, List.length_nil]; omega)) only [go_sem, Nat.reduceAdd, Nat.reduceMul, Nat.reduceSub, Int.reduceAdd, Int.reduceMul, Int.reduceSub, Int.reduceNeg, Int.reduceToNat, hr]
  exact hK
theorem ring_at {r b n G : Nat} {L : List Mg} {D : Int} (h : IsRing σ r b n L G D) {t : Nat} (hK : K (.pointer (some ⟨b, t % n * 4, none⟩)) σ) : Fn Tryz.prog B 62 #[.pointer (some ⟨r, 0, none⟩), .int .i64 t] σ K := by
  have hr := h.root
  have hn := h.pos
  have ht : (t : Int).tmod n = ((t % n : Nat) : Int) := by rw [Int.tmod_eq_emod_of_nonneg (by omega), Int.natCast_emod]
  have h1 : ((t % n : Nat) : Int) < n := Int.ofNat_lt.2 (Nat.mod_lt _ hn)
  have h2 : ¬ (n : Int) = 0 := by omega
  refine Fn.of is62 (by simp) fun hwf => ?_
  simp only [b62, Tryz.f62, Option.getD_some]
  simp -implicitDefEqProofs (disch := first | omega | (simp only [St.set_n, St.up_n, List.length_cons, List.length_nil]; omega)) only [go_sem, Nat.reduceAdd, Nat.reduceMul, Nat.reduceSub, Int.reduceAdd, Int.reduceMul, Int.reduceSub, Int.reduceNeg, Int.reduceToNat, hr, ht, h1, h2]
  exact hK
set_option maxHeartbeats 4000000 in
theorem ring_put {r b n G : Nat} {L : List Mg} {D : Int} {x : Mg} (h : IsRing σ r b n L G D) (hG : G + n ≤ 1000000000000)
    (hK : ∀ τ, IsRing τ r b n (if L.length < n then L ++ [x] else L) G (if L.length < n then D else IntKind.i64.wrap (D + 1)) → σ.n ≤ τ.n → (∀ c y, c ≠ r → c ≠ b → σ.m c = some y → τ.m c = some y) → K (.bool (decide (L.length < n))) τ) :
    Fn Tryz.prog B 32 #[.pointer (some ⟨r, 0, none⟩), .agg (fM x).toArray] σ K := by
  have hr := h.root
  have hb := h.row
  have hn := h.pos
  have h1 := h.full
  have h2 := h.low
  have h3 := h.big
  have hne := h.ne
  have hj : (G + L.length) % n < n := Nat.mod_lt _ hn
  have hs := slots_get (L := L) (G := G) hj
  obtain ⟨c0, c1, c2, c3⟩ := slot_cells hs
  refine Fn.of is32 (by simp) fun hwf => ?_
  have hrn := (hwf.2 _ _ hr).2
  have hbn := (hwf.2 _ _ hb).2
  simp only [b32, Tryz.f32, Option.getD_some]
  simp -implicitDefEqProofs (disch := first | omega | (simp only [St.set_n, St.up_n, List.length_cons, List.length_nil]; omega)) only [go_sem, Nat.reduceAdd, Nat.reduceMul, Nat.reduceSub, Int.reduceAdd, Int.reduceMul, Int.reduceSub, Int.reduceNeg, Int.reduceToNat, hr, fM]
  have hsl := slot_put (G := G) hn h1
  have hput := slots_put (L := L) (G := G) (n := n)
  have hlen : (flat fSl (slots L G n)).length = n * 4 := by rw [flat_length fSl_len, slots_len]
  refine callF_of (ring_at (σ := (σ.set σ.n (.raw (.cells #[.string x.topic, .string x.pay, .bool x.kept] 40 (0, 0)))).up (σ.n + 1)) (r := r) (b := b) (n := n) (L := L) (G := G) (D := D) ⟨hne, hn, h3, h1, h2, by simp -implicitDefEqProofs (disch := first | omega | (simp only [St.set_n, St.up_n, List.length_cons, List.length_nil]; omega)) only [go_sem, Nat.reduceAdd, Nat.reduceMul, Nat.reduceSub, Int.reduceAdd, Int.reduceMul, Int.reduceSub, Int.reduceNeg, Int.reduceToNat, hr], by simp -implicitDefEqProofs (disch := first | omega | (simp only [St.set_n, St.up_n, List.length_cons, List.length_nil]; omega)) only [go_sem, Nat.reduceAdd, Nat.reduceMul, Nat.reduceSub, Int.reduceAdd, Int.reduceMul, Int.reduceSub, Int.reduceNeg, Int.reduceToNat, hb]⟩ ?_)
  generalize hjd : (G + L.length) % n = j at hsl hput hj hs c0 c1 c2 c3 ⊢
  by_cases hlt : L.length < n
  · rw [if_pos hlt] at hsl
    simp only [hsl] at c0 c1 c2 c3 hs
    simp only [if_pos hlt, hlt, decide_true] at hK
    have e1 := slot_msg hs x
    have e2 := slot_seq (get_setS hs (y := (x, 2 * ((G + L.length : Nat) : Int)))) (2 * ((G + L.length : Nat) : Int) + 1)
    rw [List.set_set] at e2
    have hs2 : (flat fSl ((slots L G n).set j (x, 2 * ((G + L.length : Nat) : Int)))).length = n * 4 := by rw [flat_length fSl_len, List.length_set, slots_len]
    simp -implicitDefEqProofs (disch := first | omega | (simp only [St.set_n, St.up_n, List.length_cons, List.length_nil]; omega)) only [go_sem, Nat.reduceAdd, Nat.reduceMul, Nat.reduceSub, Int.reduceAdd, Int.reduceMul, Int.reduceSub, Int.reduceNeg, Int.reduceToNat, hr, hb, c3, hlen]
    refine effD_plan [0, 0, 0, 0, 8, 24, 56, 120, 248, 125, 637, 1661, 4095, 8191, 16383] [0, 1, 2, 3, 4, 5, 6, 7, 8, 9, 10, 12, 13] (.eag 0 (.eag 1 (.eagq 2 (.eag 3 (.eag 4 (.eag 5 (.eagq 6 (.eag 7 (.eag 8 (.eag 9 (.eag 10 (.alt 11 [] (.eag 12 (.eag 13 (.alt 14 [] .fin .stop))) .stop)))))))))))) (by kernel_rfl) ?_
    simp -implicitDefEqProofs (disch := first | omega | (simp only [St.set_n, St.up_n, List.length_cons, List.length_nil]; omega)) only [go_sem, Nat.reduceAdd, Nat.reduceMul, Nat.reduceSub, Int.reduceAdd, Int.reduceMul, Int.reduceSub, Int.reduceNeg, Int.reduceToNat, hr, hb, c3, hlen, e1, hs2, e2]
    refine hK _ ⟨hne, hn, h3, ?_, h2, ?_, ?_⟩ (by simp only [St.up_n, St.set_n]; omega) fun c y hc hc' hy => ?_
    · simp; omega
    · simp -implicitDefEqProofs (disch := first | omega | (simp only [St.set_n, St.up_n, List.length_cons, List.length_nil]; omega)) only [go_sem, Nat.reduceAdd, Nat.reduceMul, Nat.reduceSub, Int.reduceAdd, Int.reduceMul, Int.reduceSub, Int.reduceNeg, Int.reduceToNat]
      simp only [if_true, List.length_append, List.length_cons, List.length_nil]
      simp
      omega
    · simp -implicitDefEqProofs (disch := first | omega | (simp only [St.set_n, St.up_n, List.length_cons, List.length_nil]; omega)) only [go_sem, Nat.reduceAdd, Nat.reduceMul, Nat.reduceSub, Int.reduceAdd, Int.reduceMul, Int.reduceSub, Int.reduceNeg, Int.reduceToNat]
      rw [hput hlt x]
      try simp
    · have := (hwf.2 _ _ hy).2
      simp -implicitDefEqProofs (disch := first | omega | (simp only [St.set_n, St.up_n, List.length_cons, List.length_nil]; omega)) only [go_sem, Nat.reduceAdd, Nat.reduceMul, Nat.reduceSub, Int.reduceAdd, Int.reduceMul, Int.reduceSub, Int.reduceNeg, Int.reduceToNat, hy]
  · have hLn : L.length = n := by omega
    rw [if_neg hlt] at hsl
    simp only [hsl] at c0 c1 c2 c3 hs
    simp only [if_neg hlt, hlt, decide_false] at hK
    have hne2 : ¬ 2 * (G : Int) + 1 = 2 * ((G + L.length : Nat) : Int) := by omega
    simp -implicitDefEqProofs (disch := first | omega | (simp only [St.set_n, St.up_n, List.length_cons, List.length_nil]; omega)) only [go_sem, Nat.reduceAdd, Nat.reduceMul, Nat.reduceSub, Int.reduceAdd, Int.reduceMul, Int.reduceSub, Int.reduceNeg, Int.reduceToNat, hr, hb, c3, hlen, hne2]
    refine hK _ ⟨hne, hn, h3, h1, h2, ?_, ?_⟩ (by simp only [St.up_n, St.set_n]; omega) fun c y hc hc' hy => ?_
    · simp -implicitDefEqProofs (disch := first | omega | (simp only [St.set_n, St.up_n, List.length_cons, List.length_nil]; omega)) only [go_sem, Nat.reduceAdd, Nat.reduceMul, Nat.reduceSub, Int.reduceAdd, Int.reduceMul, Int.reduceSub, Int.reduceNeg, Int.reduceToNat]
      try simp
    · simp -implicitDefEqProofs (disch := first | omega | (simp only [St.set_n, St.up_n, List.length_cons, List.length_nil]; omega)) only [go_sem, Nat.reduceAdd, Nat.reduceMul, Nat.reduceSub, Int.reduceAdd, Int.reduceMul, Int.reduceSub, Int.reduceNeg, Int.reduceToNat, hb]
      try simp
    · have := (hwf.2 _ _ hy).2
      simp -implicitDefEqProofs (disch := first | omega | (simp only [St.set_n, St.up_n, List.length_cons, List.length_nil]; omega)) only [go_sem, Nat.reduceAdd, Nat.reduceMul, Nat.reduceSub, Int.reduceAdd, Int.reduceMul, Int.reduceSub, Int.reduceNeg, Int.reduceToNat, hy]
set_option maxHeartbeats 4000000 in
theorem ring_get {r b n G : Nat} {L : List Mg} {D : Int} (h : IsRing σ r b n L G D) (hG : G + n ≤ 1000000000000)
    (hK : ∀ τ, IsRing τ r b n L.tail (if L.length = 0 then G else G + 1) D → σ.n ≤ τ.n → (∀ c y, c ≠ r → c ≠ b → σ.m c = some y → τ.m c = some y) → K (.tuple #[.agg (fM (L.getD 0 m0)).toArray, .bool (decide (¬ L.length = 0))]) τ) :
    Fn Tryz.prog B 57 #[.pointer (some ⟨r, 0, none⟩)] σ K := by
  have hr := h.root
  have hb := h.row
  have hn := h.pos
  have h1 := h.full
  have h2 := h.low
  have h3 := h.big
  have hne := h.ne
  have hj : G % n < n := Nat.mod_lt _ hn
  have hs := slots_get (L := L) (G := G) hj
  obtain ⟨c0, c1, c2, c3⟩ := slot_cells hs
  refine Fn.of is57 (by simp) fun hwf => ?_
  have hrn := (hwf.2 _ _ hr).2
  have hbn := (hwf.2 _ _ hb).2
  simp only [b57, Tryz.f57, Option.getD_some]
  simp -implicitDefEqProofs (disch := first | omega | (simp only [St.set_n, St.up_n, List.length_cons, List.length_nil]; omega)) only [go_sem, Nat.reduceAdd, Nat.reduceMul, Nat.reduceSub, Int.reduceAdd, Int.reduceMul, Int.reduceSub, Int.reduceNeg, Int.reduceToNat, hr]
  refine callF_of (ring_at (r := r) (b := b) (n := n) (L := L) (G := G) (D := D) ⟨hne, hn, h3, h1, h2, by simp -implicitDefEqProofs (disch := first | omega | (simp only [St.set_n, St.up_n, List.length_cons, List.length_nil]; omega)) only [go_sem, Nat.reduceAdd, Nat.reduceMul, Nat.reduceSub, Int.reduceAdd, Int.reduceMul, Int.reduceSub, Int.reduceNeg, Int.reduceToNat, hr], by simp -implicitDefEqProofs (disch := first | omega | (simp only [St.set_n, St.up_n, List.length_cons, List.length_nil]; omega)) only [go_sem, Nat.reduceAdd, Nat.reduceMul, Nat.reduceSub, Int.reduceAdd, Int.reduceMul, Int.reduceSub, Int.reduceNeg, Int.reduceToNat, hb]⟩ ?_)
  have hsl := slot_get (L := L) (G := G) hn
  have hlen : (flat fSl (slots L G n)).length = n * 4 := by rw [flat_length fSl_len, slots_len]
  cases L with
  | nil =>
    generalize hjd : G % n = j at hsl hj hs c0 c1 c2 c3 ⊢
    simp only [List.length_nil, if_true] at hsl
    simp only [hsl] at c0 c1 c2 c3 hs
    have hne2 : ¬ 2 * (G : Int) = 2 * (G : Int) + 1 := by omega
    simp -implicitDefEqProofs (disch := first | omega | (simp only [St.set_n, St.up_n, List.length_cons, List.length_nil]; omega)) only [go_sem, Nat.reduceAdd, Nat.reduceMul, Nat.reduceSub, Int.reduceAdd, Int.reduceMul, Int.reduceSub, Int.reduceNeg, Int.reduceToNat, hr, hb, c3, hlen, hne2]
    refine hK _ ⟨hne, hn, h3, h1, h2, ?_, ?_⟩ (by simp only [St.up_n, St.set_n]; omega) fun c y hc hc' hy => ?_
    · simp -implicitDefEqProofs (disch := first | omega | (simp only [St.set_n, St.up_n, List.length_cons, List.length_nil]; omega)) only [go_sem, Nat.reduceAdd, Nat.reduceMul, Nat.reduceSub, Int.reduceAdd, Int.reduceMul, Int.reduceSub, Int.reduceNeg, Int.reduceToNat, hr]
      simp
    · simp -implicitDefEqProofs (disch := first | omega | (simp only [St.set_n, St.up_n, List.length_cons, List.length_nil]; omega)) only [go_sem, Nat.reduceAdd, Nat.reduceMul, Nat.reduceSub, Int.reduceAdd, Int.reduceMul, Int.reduceSub, Int.reduceNeg, Int.reduceToNat, hb]
      simp
    · have := (hwf.2 _ _ hy).2
      simp -implicitDefEqProofs (disch := first | omega | (simp only [St.set_n, St.up_n, List.length_cons, List.length_nil]; omega)) only [go_sem, Nat.reduceAdd, Nat.reduceMul, Nat.reduceSub, Int.reduceAdd, Int.reduceMul, Int.reduceSub, Int.reduceNeg, Int.reduceToNat, hy]
  | cons y L =>
    have htake := slots_take (y := y) (L := L) (G := G) (n := n) h1
    generalize hjd : G % n = j at hsl htake hj hs c0 c1 c2 c3 ⊢
    have hl0 : ¬ (y :: L).length = 0 := by simp
    rw [if_neg hl0] at hsl
    simp only [hsl] at c0 c1 c2 c3 hs
    have e1 : (((flat fSl (slots (y :: L) G n)).set (j * 4) (.string ⟨#[]⟩)).set (j * 4 + 1) (.string ⟨#[]⟩)).set (j * 4 + 1 + 1) (.bool false) = flat fSl ((slots (y :: L) G n).set j (m0, 2 * (G : Int) + 1)) := slot_msg hs m0
    have e2 : (flat fSl ((slots (y :: L) G n).set j (m0, 2 * (G : Int) + 1))).set (j * 4 + 1 + 1 + 1) (.int .i64 (2 * ((G + n : Nat) : Int))) = flat fSl (slots L (G + 1) n) := by
      have := slot_seq (get_setS hs (y := (m0, 2 * (G : Int) + 1))) (2 * ((G + n : Nat) : Int))
      rw [List.set_set, htake] at this
      exact this
    have e3 : 2 * ((G : Int) + n) = 2 * ((G + n : Nat) : Int) := by omega
    have hs2 : (flat fSl ((slots (y :: L) G n).set j (m0, 2 * (G : Int) + 1))).length = n * 4 := by rw [flat_length fSl_len, List.length_set, slots_len]
    simp -implicitDefEqProofs (disch := first | omega | (simp only [St.set_n, St.up_n, List.length_cons, List.length_nil]; omega)) only [go_sem, Nat.reduceAdd, Nat.reduceMul, Nat.reduceSub, Int.reduceAdd, Int.reduceMul, Int.reduceSub, Int.reduceNeg, Int.reduceToNat, hr, hb, c0, c1, c2, c3, hlen, e3]
    refine effD_plan [0, 0, 2, 6, 14, 0, 32, 96, 224, 480, 1022, 2046, 4094, 8191, 16383] [0, 1, 2, 3, 4, 5, 6, 7, 8, 9, 10, 11, 12, 13] (.eag 0 (.eag 1 (.eag 2 (.eag 3 (.eagq 4 (.eag 5 (.eag 6 (.eag 7 (.eagq 8 (.eagq 9 (.eag 10 (.eag 11 (.eag 12 (.eag 13 (.alt 14 [] .fin .stop))))))))))))))) (by kernel_rfl) ?_
    simp -implicitDefEqProofs (disch := first | omega | (simp only [St.set_n, St.up_n, List.length_cons, List.length_nil]; omega)) only [go_sem, Nat.reduceAdd, Nat.reduceMul, Nat.reduceSub, Int.reduceAdd, Int.reduceMul, Int.reduceSub, Int.reduceNeg, Int.reduceToNat, hr, hb, c0, c1, c2, c3, hlen, e3, hs2]
    rw [e1, e2]
    refine hK _ ⟨hne, hn, h3, by simp at h1 ⊢; omega, by simp; omega, ?_, ?_⟩ (by simp only [St.up_n, St.set_n]; omega) fun c y' hc hc' hy => ?_
    · simp -implicitDefEqProofs (disch := first | omega | (simp only [St.set_n, St.up_n, List.length_cons, List.length_nil]; omega)) only [go_sem, Nat.reduceAdd, Nat.reduceMul, Nat.reduceSub, Int.reduceAdd, Int.reduceMul, Int.reduceSub, Int.reduceNeg, Int.reduceToNat]
      simp
      omega
    · simp -implicitDefEqProofs (disch := first | omega | (simp only [St.set_n, St.up_n, List.length_cons, List.length_nil]; omega)) only [go_sem, Nat.reduceAdd, Nat.reduceMul, Nat.reduceSub, Int.reduceAdd, Int.reduceMul, Int.reduceSub, Int.reduceNeg, Int.reduceToNat]
      try simp
    · have := (hwf.2 _ _ hy).2
      simp -implicitDefEqProofs (disch := first | omega | (simp only [St.set_n, St.up_n, List.length_cons, List.length_nil]; omega)) only [go_sem, Nat.reduceAdd, Nat.reduceMul, Nat.reduceSub, Int.reduceAdd, Int.reduceMul, Int.reduceSub, Int.reduceNeg, Int.reduceToNat, hy]
theorem zc_slots {z : Value} (h : z.cells = #[.string ⟨#[]⟩, .string ⟨#[]⟩, .bool false, .int .i64 0]) (n : Nat) : zc z (n * 4) = (flat fSl (List.replicate n (m0, 0))).toArray := by
  have hl : (zc z (n * 4)).size = n * 4 := by simp [zc, zcells]
  apply Array.ext
  · rw [hl]; simp [flat_length fSl_len]
  · intro i h1 h2
    rw [hl] at h1
    have hi : i = i / 4 * 4 + i % 4 := by omega
    have hq : i / 4 < n := by omega
    have hL : (List.replicate n ((m0, 0) : Mg × Int))[i / 4]? = some (m0, 0) := by simp [hq]
    have h3 : i % 4 = 0 ∨ i % 4 = 1 ∨ i % 4 = 2 ∨ i % 4 = 3 := by omega
    have e1 : (zc z (n * 4))[i]? = (fSl (m0, 0))[i % 4]? := by
      simp only [zc, zcells, h, Array.getElem?_map]
      rw [Array.getElem?_range]
      simp only [h1, if_true, Option.map_some, List.size_toArray, List.length_cons, List.length_nil]
      rcases h3 with h3 | h3 | h3 | h3 <;> simp [h3, fSl, m0]
    have e2 : (flat fSl (List.replicate n (m0, 0))).toArray[i]? = (fSl (m0, 0))[i % 4]? := by
      obtain ⟨v, hv⟩ : ∃ v, (fSl (m0, 0))[i % 4]? = some v := by rcases h3 with h3 | h3 | h3 | h3 <;> rw [h3] <;> exact ⟨_, rfl⟩
      have := flat_get fSl_len (List.replicate n (m0, 0)) [] (i / 4) (m0, 0) (i % 4) v hL hv
      rw [← hi] at this
      rw [hv]
      simpa using this
    have e3 := e1.trans e2.symm
    rw [Array.getElem?_eq_getElem (by rw [hl]; exact h1), Array.getElem?_eq_getElem h2] at e3
    exact Option.some.inj e3
def numb (n i : Nat) : List (Mg × Int) := (List.range n).map fun j => if j < i then (m0, 2 * (j : Int)) else (m0, 0)
theorem numb_get {n i : Nat} (hi : i < n) : (numb n i)[i]? = some (m0, 0) := by simp [numb, hi]
theorem numb_set {n i : Nat} (hi : i < n) : (numb n i).set i (m0, 2 * (i : Int)) = numb n (i + 1) := by
  apply List.ext_getElem?
  intro j
  by_cases hj : j < n
  · by_cases hij : i = j
    · subst hij
      rw [List.getElem?_set_self (by simp [numb, hi])]
      simp [numb, hi]
    · rw [List.getElem?_set_ne hij]
      have : j < i ↔ j < i + 1 := by omega
      simp [numb, hj, this]
  · rw [List.getElem?_eq_none (by simp [numb]; omega), List.getElem?_eq_none (by simp [numb]; omega)]
theorem numb_all (n : Nat) : numb n n = slots [] 0 n := by
  rw [slots_new]
  apply List.map_congr_left
  intro j hj
  rw [if_pos (List.mem_range.1 hj)]
theorem numb_none (n : Nat) : numb n 0 = List.replicate n (m0, 0) := by
  apply List.ext_getElem?
  intro j
  by_cases hj : j < n <;> simp [numb, hj]
def ringN (s : Int) : Nat := (max (min s 1024) 1).toNat
theorem ring_new {s : Int} (hK : ∀ τ, IsRing τ (σ.n + 1) σ.n (ringN s) [] 0 0 → τ.n = σ.n + 2 → (∀ c, c < σ.n → τ.m c = σ.m c) → K (.pointer (some ⟨σ.n + 1, 0, none⟩)) τ) : Fn Tryz.prog B 29 #[.int .i64 s] σ K := by
  have hN : ((ringN s : Nat) : Int) = max (min s 1024) 1 := by unfold ringN; omega
  have hN1 : 0 < ringN s := by unfold ringN; omega
  have hN2 : ringN s ≤ 1024 := by unfold ringN; omega
  refine Fn.of is29 (by simp) fun hwf => ?_
  simp only [b29, Tryz.f29, Option.getD_some]
  simp -implicitDefEqProofs (disch := first | omega | (simp only [St.set_n, St.up_n, List.length_cons, List.length_nil]; omega)) only [go_sem, Nat.reduceAdd, Nat.reduceMul, Nat.reduceSub, Int.reduceAdd, Int.reduceMul, Int.reduceSub, Int.reduceNeg, Int.reduceToNat]
  rw [← hN]
  simp -implicitDefEqProofs (disch := first | omega | (simp only [St.set_n, St.up_n, List.length_cons, List.length_nil]; omega)) only [go_sem, Nat.reduceAdd, Nat.reduceMul, Nat.reduceSub, Int.reduceAdd, Int.reduceMul, Int.reduceSub, Int.reduceNeg, Int.reduceToNat]
  rw [zc_slots rfl, ← numb_none]
  refine loop_rule (fun m e t => ∃ i : Nat, m = ringN s - i ∧ i ≤ ringN s ∧ e.v 3 = .pointer (some ⟨σ.n + 1, 0, none⟩) ∧ e.v 15 = .int .i64 (ringN s) ∧ e.v 16 = .int .i64 i ∧ e.d = [] ∧
    t.m σ.n = some (.raw (.cells (flat fSl (numb (ringN s) i)).toArray 151 (0, 0))) ∧ t.m (σ.n + 1) = some (.raw (.cells #[.slice (some ⟨σ.n, 0, none⟩) (ringN s) (ringN s), .int .i64 0, .int .i64 0, .int .i64 0] 149 (0, 0))) ∧
    t.n = σ.n + 2 ∧ (∀ c, c < σ.n → t.m c = σ.m c)) (ringN s) ?_ ?_
  · refine ⟨0, by omega, by omega, ?_⟩
    simp -implicitDefEqProofs (disch := first | omega | (simp only [St.set_n, St.up_n, List.length_cons, List.length_nil]; omega)) only [go_sem, Nat.reduceAdd, Nat.reduceMul, Nat.reduceSub, Int.reduceAdd, Int.reduceMul, Int.reduceSub, Int.reduceNeg, Int.reduceToNat]
    simp
    exact fun c hc => by simp -implicitDefEqProofs (disch := first | omega | (simp only [St.set_n, St.up_n, List.length_cons, List.length_nil]; omega)) only [go_sem, Nat.reduceAdd, Nat.reduceMul, Nat.reduceSub, Int.reduceAdd, Int.reduceMul, Int.reduceSub, Int.reduceNeg, Int.reduceToNat]
  · rintro m e t hwt ⟨i, hm, hi, h3, h15, h16, hd, hb, hr, hn, hσ⟩
    simp -implicitDefEqProofs (disch := first | omega | (simp only [St.set_n, St.up_n, List.length_cons, List.length_nil]; omega)) only [go_sem, Nat.reduceAdd, Nat.reduceMul, Nat.reduceSub, Int.reduceAdd, Int.reduceMul, Int.reduceSub, Int.reduceNeg, Int.reduceToNat, h3, h15, h16]
    by_cases hlt : (i : Int) < ringN s
    · have hin : i < ringN s := by omega
      have e1 := slot_seq (numb_get hin) (2 * (i : Int))
      rw [numb_set hin] at e1
      have hl : (flat fSl (numb (ringN s) i)).length = ringN s * 4 := by rw [flat_length fSl_len]; simp [numb]
      simp -implicitDefEqProofs (disch := first | omega | (simp only [St.set_n, St.up_n, List.length_cons, List.length_nil]; omega)) only [go_sem, Nat.reduceAdd, Nat.reduceMul, Nat.reduceSub, Int.reduceAdd, Int.reduceMul, Int.reduceSub, Int.reduceNeg, Int.reduceToNat, h3, h15, h16, hlt, hr, hb, hl, e1]
      refine ⟨ringN s - (i + 1), by omega, i + 1, rfl, by omega, ?_⟩
      simp -implicitDefEqProofs (disch := first | omega | (simp only [St.set_n, St.up_n, List.length_cons, List.length_nil]; omega)) only [go_sem, Nat.reduceAdd, Nat.reduceMul, Nat.reduceSub, Int.reduceAdd, Int.reduceMul, Int.reduceSub, Int.reduceNeg, Int.reduceToNat, h3, h15, h16, hd, hr, hn]
      simp only [Int.natCast_add, Int.cast_ofNat_Int, true_and]
      intro c hc
      have := hσ c hc
      simp -implicitDefEqProofs (disch := first | omega | (simp only [St.set_n, St.up_n, List.length_cons, List.length_nil]; omega)) only [go_sem, Nat.reduceAdd, Nat.reduceMul, Nat.reduceSub, Int.reduceAdd, Int.reduceMul, Int.reduceSub, Int.reduceNeg, Int.reduceToNat, this]
    · simp -implicitDefEqProofs (disch := first | omega | (simp only [St.set_n, St.up_n, List.length_cons, List.length_nil]; omega)) only [go_sem, Nat.reduceAdd, Nat.reduceMul, Nat.reduceSub, Int.reduceAdd, Int.reduceMul, Int.reduceSub, Int.reduceNeg, Int.reduceToNat, h3, h15, h16, hlt, hd]
      have : i = ringN s := by omega
      subst this
      rw [numb_all] at hb
      exact hK _ ⟨by omega, hN1, hN2, by simp, by omega, by simpa using hr, hb⟩ hn hσ
end
end Go.Proofs.YtdbgeahmhfocaaaGreat
