/- What a ring's functions come to: contracts, by walks. -/
import Derived.Test.YtbjgoajdfdonfaaRingP
namespace Go.Proofs.Ytbjgoajdfdonfaa
set_option linter.unusedSimpArgs false
set_option linter.unusedVariables false
open Go Go.RowKit
section
variable {B : World} {σ : St} {K : Value → St → Prop}

/-- A ring in memory: its struct at 'r', its slots at 'b': 'L' is put and not got, 'G' were got, 'D' dropped. -/
structure IsRing (σ : St) (r b n : Nat) (L : List Int) (G : Nat) (D : Int) : Prop where
  ne : r ≠ b
  pos : 0 < n
  big : n ≤ 1024
  full : L.length ≤ n
  low : G ≤ 1000000000000
  root : σ.m r = some (.raw (.cells #[.slice (some ⟨b, 0, none⟩) n n, .int .i64 (G + L.length : Nat), .int .i64 G, .int .i64 D] 116 (0, 0)))
  row : σ.m b = some (.raw (.cells (flat fSl (slots L G n)).toArray 118 (0, 0)))
theorem slot_cells {S : List (Int × Int)} {i : Nat} {x : Int × Int} (h : S[i]? = some x) :
    (flat fSl S).toArray[i * 2]? = some (.int .i64 x.1) ∧ (flat fSl S).toArray[i * 2 + 1]? = some (.int .i64 x.2) := by
  have h0 := flat_get fSl_len S [] i x 0 _ h rfl
  have h1 := flat_get fSl_len S [] i x 1 _ h rfl
  simp only [List.append_nil, Nat.add_zero] at h0 h1
  simp [h0, h1]
theorem slot_set1 {S : List (Int × Int)} {i : Nat} {x : Int × Int} (h : S[i]? = some x) (v : Int) : (flat fSl S).set (i * 2) (.int .i64 v) = flat fSl (S.set i (v, x.2)) := by
  have := flat_set fSl_len S [] i x (v, x.2) 0 (.int .i64 v) h (by omega) rfl
  simpa using this
theorem slot_set2 {S : List (Int × Int)} {i : Nat} {x : Int × Int} (h : S[i]? = some x) (v : Int) : (flat fSl S).set (i * 2 + 1) (.int .i64 v) = flat fSl (S.set i (x.1, v)) := by
  have := flat_set fSl_len S [] i x (x.1, v) 1 (.int .i64 v) h (by omega) rfl
  simpa using this

theorem get_setS {L : List (Int × Int)} {i : Nat} {x y : Int × Int} (h : L[i]? = some x) : (L.set i y)[i]? = some y := by
  have := (List.getElem?_eq_some_iff.1 h).1
  simp [this]

theorem ring_cap {r b n G : Nat} {L : List Int} {D : Int} (h : IsRing σ r b n L G D) (hK : K (.int .i64 n) σ) : Fn Try.prog B 38 #[.pointer (some ⟨r, 0, none⟩)] σ K := by
  refine Fn.of is38 (by simp) fun hwf => ?_
  simp only [b38, Try.f38, Option.getD_some]
  have hr := h.root
  simp -implicitDefEqProofs (disch := first | omega | (simp only [St.set_n, St.up_n, List.length_cons, List.length_nil]; omega)) only [go_sem, Nat.reduceAdd, Nat.reduceMul, Nat.reduceSub, Int.reduceAdd, Int.reduceMul, Int.reduceSub, Int.reduceNeg, Int.reduceToNat, hr]
  exact hK
theorem ring_drops {r b n G : Nat} {L : List Int} {D : Int} (h : IsRing σ r b n L G D) (hK : K (.int .i64 D) σ) : Fn Try.prog B 60 #[.pointer (some ⟨r, 0, none⟩)] σ K := by
  refine Fn.of is60 (by simp) fun hwf => ?_
  simp only [b60, Try.f60, Option.getD_some]
  have hr := h.root
  simp -implicitDefEqProofs (disch := first | omega | (simp only [St.set_n, St.up_n, List.length_cons, List.length_nil]; omega)) only [go_sem, Nat.reduceAdd, Nat.reduceMul, Nat.reduceSub, Int.reduceAdd, Int.reduceMul, Int.reduceSub, Int.reduceNeg, Int.reduceToNat, hr]
  exact hK
theorem ring_len {r b n G : Nat} {L : List Int} {D : Int} (h : IsRing σ r b n L G D) (hK : K (.int .i64 L.length) σ) : Fn Try.prog B 40 #[.pointer (some ⟨r, 0, none⟩)] σ K := by
  refine Fn.of is40 (by simp) fun hwf => ?_
  simp only [b40, Try.f40, Option.getD_some]
  have hr := h.root
  have h1 := h.full
  have h2 := h.low
  have h3 := h.big
  simp -implicitDefEqProofs (disch := first | omega | (simp only [St.set_n, St.up_n, List.length_cons, List.length_nil]; omega)) only [go_sem, Nat.reduceAdd, Nat.reduceMul, Nat.reduceSub, Int.reduceAdd, Int.reduceMul, Int.reduceSub, Int.reduceNeg, Int.reduceToNat, hr]
  have : ((G + L.length : Nat) : Int) - G = L.length := by omega
  rw [this]
  exact hK
theorem ring_at {r b n G : Nat} {L : List Int} {D : Int} (h : IsRing σ r b n L G D) {t : Nat} (hK : K (.pointer (some ⟨b, t % n * 2, none⟩)) σ) : Fn Try.prog B 81 #[.pointer (some ⟨r, 0, none⟩), .int .i64 t] σ K := by
  have hr := h.root
  have hn := h.pos
  have ht : (t : Int).tmod n = ((t % n : Nat) : Int) := by rw [Int.tmod_eq_emod_of_nonneg (by omega), Int.natCast_emod]
  have h1 : ((t % n : Nat) : Int) < n := Int.ofNat_lt.2 (Nat.mod_lt _ hn)
  have h2 : ¬ (n : Int) = 0 := by omega
  refine Fn.of is81 (by simp) fun hwf => ?_
  simp only [b81, Try.f81, Option.getD_some]
  simp -implicitDefEqProofs (disch := first | omega | (simp only [St.set_n, St.up_n, List.length_cons, List.length_nil]; omega)) only [go_sem, Nat.reduceAdd, Nat.reduceMul, Nat.reduceSub, Int.reduceAdd, Int.reduceMul, Int.reduceSub, Int.reduceNeg, Int.reduceToNat, hr, ht, h1, h2]
  exact hK
theorem ring_put {r b n G : Nat} {L : List Int} {D x : Int} (h : IsRing σ r b n L G D) (hG : G + n ≤ 1000000000000)
    (hK : ∀ τ, IsRing τ r b n (if L.length < n then L ++ [x] else L) G (if L.length < n then D else IntKind.i64.wrap (D + 1)) → τ.n = σ.n → (∀ c, c ≠ r → c ≠ b → τ.m c = σ.m c) → K (.bool (decide (L.length < n))) τ) :
    Fn Try.prog B 39 #[.pointer (some ⟨r, 0, none⟩), .int .i64 x] σ K := by
  have hr := h.root
  have hb := h.row
  have hn := h.pos
  have h1 := h.full
  have h2 := h.low
  have h3 := h.big
  have hne := h.ne
  have hj : (G + L.length) % n < n := Nat.mod_lt _ hn
  have hs := slots_get (L := L) (G := G) hj
  obtain ⟨c0, c1⟩ := slot_cells hs
  refine Fn.of is39 (by simp) fun hwf => ?_
  simp only [b39, Try.f39, Option.getD_some]
  simp -implicitDefEqProofs (disch := first | omega | (simp only [St.set_n, St.up_n, List.length_cons, List.length_nil]; omega)) only [go_sem, Nat.reduceAdd, Nat.reduceMul, Nat.reduceSub, Int.reduceAdd, Int.reduceMul, Int.reduceSub, Int.reduceNeg, Int.reduceToNat, hr]
  refine callF_of (ring_at h ?_)
  have hsl := slot_put (G := G) hn h1
  have hput := slots_put (L := L) (G := G) (n := n)
  have hlen : (flat fSl (slots L G n)).length = n * 2 := by rw [flat_length fSl_len, slots_len]
  generalize hjd : (G + L.length) % n = j at hsl hput hj hs c0 c1 ⊢
  by_cases hlt : L.length < n
  · rw [if_pos hlt] at hsl
    simp only [hsl] at c0 c1 hs
    simp only [if_pos hlt, hlt, decide_true] at hK
    have e1 := slot_set1 hs x
    have e2 := slot_set2 (get_setS hs (y := (x, 2 * ((G + L.length : Nat) : Int)))) (2 * ((G + L.length : Nat) : Int) + 1)
    rw [List.set_set] at e2
    have hs2 : (flat fSl ((slots L G n).set j (x, 2 * ((G + L.length : Nat) : Int)))).length = n * 2 := by rw [flat_length fSl_len, List.length_set, slots_len]
    simp -implicitDefEqProofs (disch := first | omega | (simp only [St.set_n, St.up_n, List.length_cons, List.length_nil]; omega)) only [go_sem, Nat.reduceAdd, Nat.reduceMul, Nat.reduceSub, Int.reduceAdd, Int.reduceMul, Int.reduceSub, Int.reduceNeg, Int.reduceToNat, hr, hb, c1, hlen, e1, hs2, e2]
    refine hK _ ⟨hne, hn, h3, ?_, h2, ?_, ?_⟩ rfl fun c hc hc' => ?_
    · simp; omega
    · simp -implicitDefEqProofs (disch := first | omega | (simp only [St.set_n, St.up_n, List.length_cons, List.length_nil]; omega)) only [go_sem, Nat.reduceAdd, Nat.reduceMul, Nat.reduceSub, Int.reduceAdd, Int.reduceMul, Int.reduceSub, Int.reduceNeg, Int.reduceToNat]
      simp only [if_true, List.length_append, List.length_cons, List.length_nil]
      simp
      omega
    · simp -implicitDefEqProofs (disch := first | omega | (simp only [St.set_n, St.up_n, List.length_cons, List.length_nil]; omega)) only [go_sem, Nat.reduceAdd, Nat.reduceMul, Nat.reduceSub, Int.reduceAdd, Int.reduceMul, Int.reduceSub, Int.reduceNeg, Int.reduceToNat]
      rw [hput hlt x]
      try simp
    · simp -implicitDefEqProofs (disch := first | omega | (simp only [St.set_n, St.up_n, List.length_cons, List.length_nil]; omega)) only [go_sem, Nat.reduceAdd, Nat.reduceMul, Nat.reduceSub, Int.reduceAdd, Int.reduceMul, Int.reduceSub, Int.reduceNeg, Int.reduceToNat]
  · have hLn : L.length = n := by omega
    rw [if_neg hlt] at hsl
    simp only [hsl] at c0 c1 hs
    simp only [if_neg hlt, hlt, decide_false] at hK
    have hne2 : ¬ 2 * (G : Int) + 1 = 2 * ((G + L.length : Nat) : Int) := by omega
    simp -implicitDefEqProofs (disch := first | omega | (simp only [St.set_n, St.up_n, List.length_cons, List.length_nil]; omega)) only [go_sem, Nat.reduceAdd, Nat.reduceMul, Nat.reduceSub, Int.reduceAdd, Int.reduceMul, Int.reduceSub, Int.reduceNeg, Int.reduceToNat, hr, hb, c1, hlen, hne2]
    refine hK _ ⟨hne, hn, h3, h1, h2, ?_, ?_⟩ rfl fun c hc hc' => ?_
    · simp -implicitDefEqProofs (disch := first | omega | (simp only [St.set_n, St.up_n, List.length_cons, List.length_nil]; omega)) only [go_sem, Nat.reduceAdd, Nat.reduceMul, Nat.reduceSub, Int.reduceAdd, Int.reduceMul, Int.reduceSub, Int.reduceNeg, Int.reduceToNat]
      try simp
    · simp -implicitDefEqProofs (disch := first | omega | (simp only [St.set_n, St.up_n, List.length_cons, List.length_nil]; omega)) only [go_sem, Nat.reduceAdd, Nat.reduceMul, Nat.reduceSub, Int.reduceAdd, Int.reduceMul, Int.reduceSub, Int.reduceNeg, Int.reduceToNat, hb]
      try simp
    · simp -implicitDefEqProofs (disch := first | omega | (simp only [St.set_n, St.up_n, List.length_cons, List.length_nil]; omega)) only [go_sem, Nat.reduceAdd, Nat.reduceMul, Nat.reduceSub, Int.reduceAdd, Int.reduceMul, Int.reduceSub, Int.reduceNeg, Int.reduceToNat]
theorem ring_get {r b n G : Nat} {L : List Int} {D : Int} (h : IsRing σ r b n L G D) (hG : G + n ≤ 1000000000000)
    (hK : ∀ τ, IsRing τ r b n L.tail (if L.length = 0 then G else G + 1) D → τ.n = σ.n → (∀ c, c ≠ r → c ≠ b → τ.m c = σ.m c) → K (.tuple #[.int .i64 (L.getD 0 0), .bool (decide (¬ L.length = 0))]) τ) :
    Fn Try.prog B 41 #[.pointer (some ⟨r, 0, none⟩)] σ K := by
  have hr := h.root
  have hb := h.row
  have hn := h.pos
  have h1 := h.full
  have h2 := h.low
  have h3 := h.big
  have hne := h.ne
  have hj : G % n < n := Nat.mod_lt _ hn
  have hs := slots_get (L := L) (G := G) hj
  obtain ⟨c0, c1⟩ := slot_cells hs
  refine Fn.of is41 (by simp) fun hwf => ?_
  simp only [b41, Try.f41, Option.getD_some]
  simp -implicitDefEqProofs (disch := first | omega | (simp only [St.set_n, St.up_n, List.length_cons, List.length_nil]; omega)) only [go_sem, Nat.reduceAdd, Nat.reduceMul, Nat.reduceSub, Int.reduceAdd, Int.reduceMul, Int.reduceSub, Int.reduceNeg, Int.reduceToNat, hr]
  refine callF_of (ring_at h ?_)
  have hsl := slot_get (L := L) (G := G) hn
  have hlen : (flat fSl (slots L G n)).length = n * 2 := by rw [flat_length fSl_len, slots_len]
  cases L with
  | nil =>
    generalize hjd : G % n = j at hsl hj hs c0 c1 ⊢
    simp only [List.length_nil, if_true] at hsl
    simp only [hsl] at c0 c1 hs
    have hne2 : ¬ 2 * (G : Int) = 2 * (G : Int) + 1 := by omega
    simp -implicitDefEqProofs (disch := first | omega | (simp only [St.set_n, St.up_n, List.length_cons, List.length_nil]; omega)) only [go_sem, Nat.reduceAdd, Nat.reduceMul, Nat.reduceSub, Int.reduceAdd, Int.reduceMul, Int.reduceSub, Int.reduceNeg, Int.reduceToNat, hr, hb, c1, hlen, hne2]
    simpa using hK σ (by simpa using h) rfl (fun _ _ _ => rfl)
  | cons y L =>
    have htake := slots_take (y := y) (L := L) (G := G) (n := n) h1
    generalize hjd : G % n = j at hsl htake hj hs c0 c1 ⊢
    have hl0 : ¬ (y :: L).length = 0 := by simp
    rw [if_neg hl0] at hsl
    simp only [hsl] at c0 c1 hs
    have e1 := slot_set1 hs 0
    have e2 := slot_set2 (get_setS hs (y := (0, 2 * (G : Int) + 1))) (2 * ((G + n : Nat) : Int))
    rw [List.set_set, htake] at e2
    have e3 : 2 * ((G : Int) + n) = 2 * ((G + n : Nat) : Int) := by omega
    simp -implicitDefEqProofs (disch := first | omega | (simp only [St.set_n, St.up_n, List.length_cons, List.length_nil]; omega)) only [go_sem, Nat.reduceAdd, Nat.reduceMul, Nat.reduceSub, Int.reduceAdd, Int.reduceMul, Int.reduceSub, Int.reduceNeg, Int.reduceToNat, hr, hb, c0, c1, hlen, e3, e1, e2]
    refine effD_cut (by kernel_rfl) ?_
    have hs2 : (flat fSl ((slots (y :: L) G n).set j (0, 2 * (G : Int) + 1))).length = n * 2 := by rw [flat_length fSl_len, List.length_set, slots_len]
    simp -implicitDefEqProofs (disch := first | omega | (simp only [St.set_n, St.up_n, List.length_cons, List.length_nil]; omega)) only [go_sem, Nat.reduceAdd, Nat.reduceMul, Nat.reduceSub, Int.reduceAdd, Int.reduceMul, Int.reduceSub, Int.reduceNeg, Int.reduceToNat, hr, hb, hlen, hs2, e3, e1, e2]
    refine hK _ ⟨hne, hn, h3, by simp at h1 ⊢; omega, by simp; omega, ?_, ?_⟩ rfl fun c hc hc' => ?_
    · simp -implicitDefEqProofs (disch := first | omega | (simp only [St.set_n, St.up_n, List.length_cons, List.length_nil]; omega)) only [go_sem, Nat.reduceAdd, Nat.reduceMul, Nat.reduceSub, Int.reduceAdd, Int.reduceMul, Int.reduceSub, Int.reduceNeg, Int.reduceToNat]
      simp
      omega
    · simp -implicitDefEqProofs (disch := first | omega | (simp only [St.set_n, St.up_n, List.length_cons, List.length_nil]; omega)) only [go_sem, Nat.reduceAdd, Nat.reduceMul, Nat.reduceSub, Int.reduceAdd, Int.reduceMul, Int.reduceSub, Int.reduceNeg, Int.reduceToNat]
      try simp
    · simp -implicitDefEqProofs (disch := first | omega | (simp only [St.set_n, St.up_n, List.length_cons, List.length_nil]; omega)) only [go_sem, Nat.reduceAdd, Nat.reduceMul, Nat.reduceSub, Int.reduceAdd, Int.reduceMul, Int.reduceSub, Int.reduceNeg, Int.reduceToNat]

theorem zc_slots {z : Value} (h : z.cells = #[.int .i64 0, .int .i64 0]) (n : Nat) : zc z (n * 2) = (flat fSl (List.replicate n (0, 0))).toArray := by
  have hl : (zc z (n * 2)).size = n * 2 := by simp [zc, zcells]
  apply Array.ext
  · rw [hl]; simp [flat_length fSl_len]
  · intro i h1 h2
    rw [hl] at h1
    have hi : i = i / 2 * 2 + i % 2 := by omega
    have hq : i / 2 < n := by omega
    have hL : (List.replicate n ((0, 0) : Int × Int))[i / 2]? = some (0, 0) := by simp [hq]
    have h3 : i % 2 = 0 ∨ i % 2 = 1 := by omega
    have e1 : (zc z (n * 2))[i]? = some (.int .i64 0) := by
      simp only [zc, zcells, h, Array.getElem?_map]
      rw [Array.getElem?_range]
      simp only [h1, if_true, Option.map_some, List.size_toArray, List.length_cons, List.length_nil]
      rcases h3 with h3 | h3 <;> simp [h3]
    have e2 : (flat fSl (List.replicate n (0, 0))).toArray[i]? = some (.int .i64 0) := by
      have := flat_get fSl_len (List.replicate n (0, 0)) [] (i / 2) (0, 0) (i % 2) (.int .i64 0) hL (by rcases h3 with h3 | h3 <;> simp [h3, fSl])
      rw [← hi] at this
      simpa using this
    rw [Array.getElem?_eq_getElem (by rw [hl]; exact h1)] at e1
    rw [Array.getElem?_eq_getElem h2] at e2
    exact Option.some.inj (e1.trans e2.symm)
/-- The slots while they are numbered. -/
def numb (n i : Nat) : List (Int × Int) := (List.range n).map fun j => if j < i then (0, 2 * (j : Int)) else (0, 0)
theorem numb_get {n i : Nat} (hi : i < n) : (numb n i)[i]? = some (0, 0) := by simp [numb, hi]
theorem numb_set {n i : Nat} (hi : i < n) : (numb n i).set i (0, 2 * (i : Int)) = numb n (i + 1) := by
  apply List.ext_getElem?
  intro j
  by_cases hj : j < n
  · by_cases hij : i = j
    · subst hij
      rw [List.getElem?_set_self (by simp [numb, hi])]
      simp [numb, hi]
    · rw [List.getElem?_set_ne hij]
      have : j < i ↔ j < i + 1 := by omega
      simp [numb, hj, this]
  · rw [List.getElem?_eq_none (by simp [numb]; omega), List.getElem?_eq_none (by simp [numb]; omega)]
theorem numb_all (n : Nat) : numb n n = slots [] 0 n := by
  rw [slots_new]
  apply List.map_congr_left
  intro j hj
  rw [if_pos (List.mem_range.1 hj)]
theorem numb_none (n : Nat) : numb n 0 = List.replicate n (0, 0) := by
  apply List.ext_getElem?
  intro j
  by_cases hj : j < n <;> simp [numb, hj]
/-- How many slots a ring has. -/
def ringN (s : Int) : Nat := (max (min s 1024) 1).toNat
theorem ring_new {s : Int} (hK : ∀ τ, IsRing τ (σ.n + 1) σ.n (ringN s) [] 0 0 → τ.n = σ.n + 2 → (∀ c x, c < σ.n → σ.m c = some x → τ.m c = some x) → K (.pointer (some ⟨σ.n + 1, 0, none⟩)) τ) : Fn Try.prog B 37 #[.int .i64 s] σ K := by
  have hN : ((ringN s : Nat) : Int) = max (min s 1024) 1 := by unfold ringN; omega
  have hN1 : 0 < ringN s := by unfold ringN; omega
  have hN2 : ringN s ≤ 1024 := by unfold ringN; omega
  refine Fn.of is37 (by simp) fun hwf => ?_
  simp only [b37, Try.f37, Option.getD_some]
  simp -implicitDefEqProofs (disch := first | omega | (simp only [St.set_n, St.up_n, List.length_cons, List.length_nil]; omega)) only [go_sem, Nat.reduceAdd, Nat.reduceMul, Nat.reduceSub, Int.reduceAdd, Int.reduceMul, Int.reduceSub, Int.reduceNeg, Int.reduceToNat]
  rw [← hN]
  simp -implicitDefEqProofs (disch := first | omega | (simp only [St.set_n, St.up_n, List.length_cons, List.length_nil]; omega)) only [go_sem, Nat.reduceAdd, Nat.reduceMul, Nat.reduceSub, Int.reduceAdd, Int.reduceMul, Int.reduceSub, Int.reduceNeg, Int.reduceToNat]
  rw [zc_slots rfl, ← numb_none]
  refine loop_rule (fun m e t => ∃ i : Nat, m = ringN s - i ∧ i ≤ ringN s ∧ e.v 3 = .pointer (some ⟨σ.n + 1, 0, none⟩) ∧ e.v 15 = .int .i64 (ringN s) ∧ e.v 16 = .int .i64 i ∧ e.d = [] ∧
    t.m σ.n = some (.raw (.cells (flat fSl (numb (ringN s) i)).toArray 118 (0, 0))) ∧ t.m (σ.n + 1) = some (.raw (.cells #[.slice (some ⟨σ.n, 0, none⟩) (ringN s) (ringN s), .int .i64 0, .int .i64 0, .int .i64 0] 116 (0, 0))) ∧
    t.n = σ.n + 2 ∧ (∀ c x, c < σ.n → σ.m c = some x → t.m c = some x)) (ringN s) ?_ ?_
  · refine ⟨0, by omega, by omega, ?_⟩
    simp -implicitDefEqProofs (disch := first | omega | (simp only [St.set_n, St.up_n, List.length_cons, List.length_nil]; omega)) only [go_sem, Nat.reduceAdd, Nat.reduceMul, Nat.reduceSub, Int.reduceAdd, Int.reduceMul, Int.reduceSub, Int.reduceNeg, Int.reduceToNat]
    simp
    exact fun c x hc hx => by simp -implicitDefEqProofs (disch := first | omega | (simp only [St.set_n, St.up_n, List.length_cons, List.length_nil]; omega)) only [go_sem, Nat.reduceAdd, Nat.reduceMul, Nat.reduceSub, Int.reduceAdd, Int.reduceMul, Int.reduceSub, Int.reduceNeg, Int.reduceToNat, hx]
  · rintro m e t hwt ⟨i, hm, hi, h3, h15, h16, hd, hb, hr, hn, hσ⟩
    simp -implicitDefEqProofs (disch := first | omega | (simp only [St.set_n, St.up_n, List.length_cons, List.length_nil]; omega)) only [go_sem, Nat.reduceAdd, Nat.reduceMul, Nat.reduceSub, Int.reduceAdd, Int.reduceMul, Int.reduceSub, Int.reduceNeg, Int.reduceToNat, h3, h15, h16]
    by_cases hlt : (i : Int) < ringN s
    · have hin : i < ringN s := by omega
      have e1 := slot_set2 (numb_get hin) (2 * (i : Int))
      rw [numb_set hin] at e1
      have hl : (flat fSl (numb (ringN s) i)).length = ringN s * 2 := by rw [flat_length fSl_len]; simp [numb]
      simp -implicitDefEqProofs (disch := first | omega | (simp only [St.set_n, St.up_n, List.length_cons, List.length_nil]; omega)) only [go_sem, Nat.reduceAdd, Nat.reduceMul, Nat.reduceSub, Int.reduceAdd, Int.reduceMul, Int.reduceSub, Int.reduceNeg, Int.reduceToNat, h3, h15, h16, hlt, hr, hb, hl, e1]
      refine ⟨ringN s - (i + 1), by omega, i + 1, rfl, by omega, ?_⟩
      simp -implicitDefEqProofs (disch := first | omega | (simp only [St.set_n, St.up_n, List.length_cons, List.length_nil]; omega)) only [go_sem, Nat.reduceAdd, Nat.reduceMul, Nat.reduceSub, Int.reduceAdd, Int.reduceMul, Int.reduceSub, Int.reduceNeg, Int.reduceToNat, h3, h15, h16, hd, hr, hn]
      simp only [Int.natCast_add, Int.cast_ofNat_Int, true_and]
      intro c x hc hx
      have := hσ c x hc hx
      simp -implicitDefEqProofs (disch := first | omega | (simp only [St.set_n, St.up_n, List.length_cons, List.length_nil]; omega)) only [go_sem, Nat.reduceAdd, Nat.reduceMul, Nat.reduceSub, Int.reduceAdd, Int.reduceMul, Int.reduceSub, Int.reduceNeg, Int.reduceToNat, this]
    · simp -implicitDefEqProofs (disch := first | omega | (simp only [St.set_n, St.up_n, List.length_cons, List.length_nil]; omega)) only [go_sem, Nat.reduceAdd, Nat.reduceMul, Nat.reduceSub, Int.reduceAdd, Int.reduceMul, Int.reduceSub, Int.reduceNeg, Int.reduceToNat, h3, h15, h16, hlt, hd]
      have : i = ringN s := by omega
      subst this
      rw [numb_all] at hb
      exact hK _ ⟨by omega, hN1, hN2, by simp, by omega, by simpa using hr, hb⟩ hn hσ
end
end Go.Proofs.Ytbjgoajdfdonfaa
