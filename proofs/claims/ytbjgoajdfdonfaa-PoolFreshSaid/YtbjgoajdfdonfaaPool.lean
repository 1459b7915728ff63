/- What a pool's functions come to: contracts, by walks. -/
import Derived.Test.YtbjgoajdfdonfaaFacts
namespace Go.Proofs.Ytbjgoajdfdonfaa
set_option linter.unusedSimpArgs false
set_option linter.unusedVariables false
open Go Go.RowKit
section
variable {B : World} {σ : St} {K : Value → St → Prop}

/-- A place: what it has, its stamp, whether it is taken. -/
abbrev Pl (α : Type) := α × Int × Bool
structure PS (α : Type) where
  l : List (Pl α)
  fr : List Int
  lim : Int
def poolRoot (lim : Int) : List Value → List Value
  | [a, b] => [a, b, .int .i64 lim]
  | _ => []
@[go_sem] theorem poolRoot_two {lim : Int} {a b : Value} : poolRoot lim [a, b] = [a, b, .int .i64 lim] := rfl

def fPlI (x : Pl Int) : List Value := [.int .i64 x.1, .int .i64 x.2.1, .bool x.2.2]
theorem fPlI_len (x : Pl Int) : (fPlI x).length = 3 := rfl
def spPoolI (S : PS Int) : List Sp := [⟨125, 3, flat fPlI S.l, S.l.length⟩, ⟨3, 1, ints S.fr, S.fr.length⟩]
abbrev PoolRI (S : PS Int) (p : Nat) : Heaplet → Prop := Obj 123 (poolRoot S.lim) (spPoolI S) p
theorem plI_cells {L : List (Pl Int)} {i : Nat} {x : Pl Int} (sp : List Value) (h : L[i]? = some x) :
    (flat fPlI L ++ sp)[i * 3]? = some (.int .i64 x.1) ∧ (flat fPlI L ++ sp)[i * 3 + 1]? = some (.int .i64 x.2.1) ∧ (flat fPlI L ++ sp)[i * 3 + 2]? = some (.bool x.2.2) := by
  have h0 := flat_get fPlI_len L sp i x 0 _ h rfl
  have h1 := flat_get fPlI_len L sp i x 1 _ h rfl
  have h2 := flat_get fPlI_len L sp i x 2 _ h rfl
  exact ⟨by simpa using h0, h1, h2⟩
theorem plI_set0 {L : List (Pl Int)} {i : Nat} {x : Pl Int} (sp : List Value) (h : L[i]? = some x) (y : Int) : (flat fPlI L ++ sp).set (i * 3) (.int .i64 y) = flat fPlI (L.set i (y, x.2.1, x.2.2)) ++ sp := by
  have := flat_set fPlI_len L sp i x (y, x.2.1, x.2.2) 0 (.int .i64 y) h (by omega) rfl
  simpa using this
theorem plI_set1 {L : List (Pl Int)} {i : Nat} {x : Pl Int} (sp : List Value) (h : L[i]? = some x) (y : Int) : (flat fPlI L ++ sp).set (i * 3 + 1) (.int .i64 y) = flat fPlI (L.set i (x.1, y, x.2.2)) ++ sp :=
  flat_set fPlI_len L sp i x (x.1, y, x.2.2) 1 (.int .i64 y) h (by omega) rfl
theorem plI_set2 {L : List (Pl Int)} {i : Nat} {x : Pl Int} (sp : List Value) (h : L[i]? = some x) (y : Bool) : (flat fPlI L ++ sp).set (i * 3 + 2) (.bool y) = flat fPlI (L.set i (x.1, x.2.1, y)) ++ sp :=
  flat_set fPlI_len L sp i x (x.1, x.2.1, y) 2 (.bool y) h (by omega) rfl

theorem poolI_at {b n cap p i : Nat} {v : Value} {lim : Int} (hr : σ.m p = some (.raw (.cells #[.slice (some ⟨b, 0, none⟩) n cap, v, .int .i64 lim] 123 (0, 0)))) (hi : i < n) (hn : n ≤ 1000000) (hK : K (.pointer (some ⟨b, i * 3, none⟩)) σ) :
    Fn Try.prog B 82 #[.pointer (some ⟨p, 0, none⟩), .int .i64 (i + 1)] σ K := by
  refine Fn.of is82 (by simp) fun hwf => ?_
  simp only [b82, Try.f82, Option.getD_some]
  have e1 : (i : Int) + 1 - 1 = i := by omega
  simp -implicitDefEqProofs (disch := first | omega | (simp only [St.set_n, St.up_n, List.length_cons, List.length_nil]; omega)) only [go_sem, Nat.reduceAdd, Nat.reduceMul, Nat.reduceSub, Int.reduceAdd, Int.reduceMul, Int.reduceSub, Int.reduceNeg, Int.reduceToNat, hr, e1]
  exact hK
theorem poolI_at_none {a : Option Addr} {n cap p : Nat} {v : Value} {lim id : Int} (hr : σ.m p = some (.raw (.cells #[.slice a n cap, v, .int .i64 lim] 123 (0, 0)))) (hi : ¬ (1 ≤ id ∧ id ≤ n)) (hK : K (.pointer none) σ) :
    Fn Try.prog B 82 #[.pointer (some ⟨p, 0, none⟩), .int .i64 id] σ K := by
  refine Fn.of is82 (by simp) fun hwf => ?_
  simp only [b82, Try.f82, Option.getD_some]
  by_cases h : id < 1
  · simp -implicitDefEqProofs (disch := first | omega | (simp only [St.set_n, St.up_n, List.length_cons, List.length_nil]; omega)) only [go_sem, Nat.reduceAdd, Nat.reduceMul, Nat.reduceSub, Int.reduceAdd, Int.reduceMul, Int.reduceSub, Int.reduceNeg, Int.reduceToNat, h]
    exact hK
  · have h2 : (n : Int) < id := by omega
    simp -implicitDefEqProofs (disch := first | omega | (simp only [St.set_n, St.up_n, List.length_cons, List.length_nil]; omega)) only [go_sem, Nat.reduceAdd, Nat.reduceMul, Nat.reduceSub, Int.reduceAdd, Int.reduceMul, Int.reduceSub, Int.reduceNeg, Int.reduceToNat, hr, h, h2]
    exact hK
theorem poolI_at_nil {id : Int} (hK : K (.pointer none) σ) : Fn Try.prog B 82 #[.pointer none, .int .i64 id] σ K := by
  refine Fn.of is82 (by simp) fun hwf => ?_
  simp only [b82, Try.f82, Option.getD_some]
  simp -implicitDefEqProofs (disch := first | omega | (simp only [St.set_n, St.up_n, List.length_cons, List.length_nil]; omega)) only [go_sem, Nat.reduceAdd, Nat.reduceMul, Nat.reduceSub, Int.reduceAdd, Int.reduceMul, Int.reduceSub, Int.reduceNeg, Int.reduceToNat]
  exact hK

/-- A place that was given back is taken. -/
theorem poolI_take_free {S : PS Int} {p i : Nat} {x y : Int} {s : Int} {t : Bool} {fr0 : List Int} (hm : σ.m p = some (.comp (PoolRI S p))) (hfr : S.fr = fr0 ++ [(i : Int) + 1]) (hi : S.l[i]? = some (y, s, t)) (hb : S.l.length ≤ 100000) (hb2 : S.fr.length ≤ 100000)
    (hK : ∀ k, σ.n ≤ k → K (.tuple #[.int .i64 (i + 1), .int .i64 s, .int .i64 0]) ((σ.set p (.comp (PoolRI { S with l := S.l.set i (x, s, true), fr := fr0 } p))).up k)) :
    Fn Try.prog B 44 #[.pointer (some ⟨p, 0, none⟩), .int .i64 x] σ K := by
  obtain ⟨L, fr, lim⟩ := S
  simp only at hfr hi hb hb2 hK
  subst hfr
  refine Fn.opn hm is44 (by simp) fun vs τ hn O => ?_
  obtain ⟨v1, v2, rfl, o1, o2⟩ := O.own.two
  have hil := (List.getElem?_eq_some_iff.1 hi).1
  obtain ⟨b1, c1, sp1, rfl, hc1, m1, l1, k1⟩ := o1.has (by first | omega | (simp only; omega))
  obtain ⟨b2, c2, sp2, rfl, hc2, m2, l2, k2⟩ := o2.has (by simp)
  have hroot := O.root
  have hap := O.apart
  simp only [poolRoot_two, List.length_append, List.length_cons, List.length_nil, Nat.zero_add] at hroot hc2 k2 hb2
  simp only at hc1 m1 l1 k1 m2 l2
  simp only [go_sem] at hap
  obtain ⟨a1, a2, a3⟩ := hap
  simp only [b44, Try.f44, Option.getD_some]
  have e1 : ((fr0.length + 1 : Nat) : Int) - 1 = (fr0.length : Nat) := by omega
  have g1 : (ints (fr0 ++ [(i : Int) + 1]) ++ sp2).toArray[fr0.length]? = some (.int .i64 ((i : Int) + 1)) := by
    have := ints_get (l := fr0 ++ [(i : Int) + 1]) (i := fr0.length) (x := (i : Int) + 1) (by simp) sp2
    simpa using this
  simp -implicitDefEqProofs (disch := first | omega | (simp only [St.set_n, St.up_n, List.length_cons, List.length_nil]; omega)) only [go_sem, Nat.reduceAdd, Nat.reduceMul, Nat.reduceSub, Int.reduceAdd, Int.reduceMul, Int.reduceSub, Int.reduceNeg, Int.reduceToNat, hroot, e1, m1, m2, g1]
  refine effD_cut (by kernel_rfl) ?_
  simp -implicitDefEqProofs (disch := first | omega | (simp only [St.set_n, St.up_n, List.length_cons, List.length_nil]; omega)) only [go_sem, Nat.reduceAdd, Nat.reduceMul, Nat.reduceSub, Int.reduceAdd, Int.reduceMul, Int.reduceSub, Int.reduceNeg, Int.reduceToNat, hroot, e1, m1, m2, g1]
  have O1 := O.tr (i := 1) (x' := ⟨3, 1, (ints (fr0 ++ [(i : Int) + 1])).take (fr0.length * 1), fr0.length⟩) rfl rfl (o2.trunc (k := fr0.length) (by simp)) (fun b h => h) (poolRoot lim)
  simp only [List.set_cons_zero, List.set_cons_succ, poolRoot_two, List.length_append, List.length_cons, List.length_nil, Nat.zero_add] at O1
  refine callF_of (poolI_at (b := b1) (n := L.length) (cap := c1) (v := .slice (some ⟨b2, 0, none⟩) fr0.length c2) (lim := lim) (by simp -implicitDefEqProofs (disch := first | omega | (simp only [St.set_n, St.up_n, List.length_cons, List.length_nil]; omega)) only [go_sem, Nat.reduceAdd, Nat.reduceMul, Nat.reduceSub, Int.reduceAdd, Int.reduceMul, Int.reduceSub, Int.reduceNeg, Int.reduceToNat]) hil (by omega) ?_)
  have s0 := plI_set0 sp1 hi x
  have hi' : (L.set i (x, s, t))[i]? = some (x, s, t) := by simp [hil]
  have s2 := plI_set2 sp1 hi' true
  simp only [List.set_set] at s2
  have l1' : (flat fPlI (L.set i (x, s, t)) ++ sp1).length = c1 * 3 := by rw [← s0]; simpa using l1
  have hi2 : (L.set i (x, s, true))[i]? = some (x, s, true) := by simp [hil]
  obtain ⟨_, q1, _⟩ := plI_cells sp1 hi2
  simp -implicitDefEqProofs (disch := first | omega | (simp only [St.set_n, St.up_n, List.length_cons, List.length_nil]; omega)) only [go_sem, Nat.reduceAdd, Nat.reduceMul, Nat.reduceSub, Int.reduceAdd, Int.reduceMul, Int.reduceSub, Int.reduceNeg, Int.reduceToNat, hroot, m1, m2, l1, l1', s0, s2, q1]
  refine ((O1.wr (i := 0) (x := ⟨125, 3, flat fPlI L, L.length⟩) (cs' := flat fPlI (L.set i (x, s, true))) rfl rfl (by simp -implicitDefEqProofs (disch := first | omega | (simp only [St.set_n, St.up_n, List.length_cons, List.length_nil]; omega)) only [go_sem, Nat.reduceAdd, Nat.reduceMul, Nat.reduceSub, Int.reduceAdd, Int.reduceMul, Int.reduceSub, Int.reduceNeg, Int.reduceToNat, m1]) (by simp [flat_length fPlI_len])).cast ?_).close hK
  simp [spPoolI, ints]
/-- A new place is taken. -/
theorem poolI_take_new {S : PS Int} {p : Nat} {x : Int} (hm : σ.m p = some (.comp (PoolRI S p))) (hfr : S.fr = []) (hl : (S.l.length : Int) < S.lim) (hb : S.l.length ≤ 100000)
    (hK : ∀ k, σ.n ≤ k → K (.tuple #[.int .i64 (S.l.length + 1), .int .i64 0, .int .i64 0]) ((σ.set p (.comp (PoolRI { S with l := S.l ++ [(x, 0, true)] } p))).up k)) :
    Fn Try.prog B 44 #[.pointer (some ⟨p, 0, none⟩), .int .i64 x] σ K := by
  obtain ⟨L, fr, lim⟩ := S
  simp only at hfr hl hb hK
  subst hfr
  refine Fn.opn hm is44 (by simp) fun vs τ hn O => ?_
  obtain ⟨v1, v2, rfl, o1, o2⟩ := O.own.two
  simp only at o1 o2
  obtain ⟨A1, c1, rfl, hc1⟩ := o1.is
  obtain ⟨A2, c2, rfl, hc2⟩ := o2.is
  simp only [List.length_nil] at O
  have hroot := O.root
  simp only [poolRoot_two] at hroot
  simp only [b44, Try.f44, Option.getD_some]
  simp -implicitDefEqProofs (disch := first | omega | (simp only [St.set_n, St.up_n, List.length_cons, List.length_nil]; omega)) only [go_sem, Nat.reduceAdd, Nat.reduceMul, Nat.reduceSub, Int.reduceAdd, Int.reduceMul, Int.reduceSub, Int.reduceNeg, Int.reduceToNat, hroot, hl]
  refine appO_one (O.new (.raw (.cells #[.int .i64 0, .int .i64 0, .bool false] 125 (0, 0))) (k := τ.n + 1) (by omega)) 0 (s := 3) (bts := 24) (ty' := 125) (fz := (0, 0)) (ys := [.int .i64 0, .int .i64 0, .bool false]) rfl rfl se121 kd121 zr125 rfl (by omega) (by simp -implicitDefEqProofs (disch := first | omega | (simp only [St.set_n, St.up_n, List.length_cons, List.length_nil]; omega)) only [go_sem, Nat.reduceAdd, Nat.reduceMul, Nat.reduceSub, Int.reduceAdd, Int.reduceMul, Int.reduceSub, Int.reduceNeg, Int.reduceToNat]) rfl rfl (by first | omega | (simp only; omega)) fun A' C' σ' hC' hp' hO hfr hn' => ?_
  have O1 := hO (poolRoot lim)
  simp only [List.set_cons_zero, List.set_cons_succ, poolRoot_two] at O1 hp'
  simp -implicitDefEqProofs (disch := first | omega | (simp only [St.set_n, St.up_n, List.length_cons, List.length_nil]; omega)) only [go_sem, Nat.reduceAdd, Nat.reduceMul, Nat.reduceSub, Int.reduceAdd, Int.reduceMul, Int.reduceSub, Int.reduceNeg, Int.reduceToNat, hp']
  generalize σ'.set p (.raw (.cells #[.slice A' (L.length + 1) C', .slice A2 0 c2, .int .i64 lim] 123 (0, 0))) = τ1 at O1 ⊢
  obtain ⟨v1, v2, e0, o1', o2'⟩ := O1.own.two
  obtain ⟨rfl, rfl⟩ : Value.slice A' (L.length + 1) C' = v1 ∧ Value.slice A2 0 c2 = v2 := by simpa using e0
  obtain ⟨b1, c1', sp1, e0', hc1', m1, l1, k1⟩ := o1'.has (by first | omega | (simp only; omega))
  cases e0'
  have hC2 : L.length + 1 ≤ C' := hC'
  have hroot1 := O1.root
  simp only [poolRoot_two] at hroot1
  have ef : flat fPlI L ++ [.int .i64 0, .int .i64 0, .bool false] = flat fPlI (L ++ [(0, 0, false)]) := by simp [flat, fPlI]
  simp only [ef] at m1 l1 k1
  have e2 : ((L.length + 1 : Nat) : Int) = (L.length : Int) + 1 := by omega
  rw [e2]
  refine callF_of (poolI_at (b := b1) (n := L.length + 1) (cap := C') (v := .slice A2 0 c2) (lim := lim) (by simp -implicitDefEqProofs (disch := first | omega | (simp only [St.set_n, St.up_n, List.length_cons, List.length_nil]; omega)) only [go_sem, Nat.reduceAdd, Nat.reduceMul, Nat.reduceSub, Int.reduceAdd, Int.reduceMul, Int.reduceSub, Int.reduceNeg, Int.reduceToNat, hroot1]) (by omega) (by omega) ?_)
  have hi0 : (L ++ [((0, 0, false) : Pl Int)])[L.length]? = some (0, 0, false) := by simp
  have hs1 : ∀ y : Pl Int, (L ++ [((0, 0, false) : Pl Int)]).set L.length y = L ++ [y] := fun y => by simp
  have s0 := plI_set0 sp1 hi0 x
  rw [hs1] at s0
  have hi1 : (L ++ [((x, 0, false) : Pl Int)])[L.length]? = some (x, 0, false) := by simp
  have s2 := plI_set2 sp1 hi1 true
  simp only [List.set_append_right, Nat.le_refl, Nat.sub_self, List.set_cons_zero] at s2
  have hi2 : (L ++ [((x, 0, true) : Pl Int)])[L.length]? = some (x, 0, true) := by simp
  obtain ⟨_, q1, _⟩ := plI_cells sp1 hi2
  have l1' : (flat fPlI (L ++ [(x, 0, false)]) ++ sp1).length = C' * 3 := by rw [← s0]; simpa using l1
  simp -implicitDefEqProofs (disch := first | omega | (simp only [St.set_n, St.up_n, List.length_cons, List.length_nil]; omega)) only [go_sem, Nat.reduceAdd, Nat.reduceMul, Nat.reduceSub, Int.reduceAdd, Int.reduceMul, Int.reduceSub, Int.reduceNeg, Int.reduceToNat, m1, l1, l1', s0, s2, q1]
  refine ((O1.wr (i := 0) (x := ⟨125, 3, flat fPlI L ++ [.int .i64 0, .int .i64 0, .bool false], L.length + 1⟩) (cs' := flat fPlI (L ++ [(x, 0, true)])) rfl rfl (by simp only [ef]; exact m1) (by simp [flat_length fPlI_len]; omega)).cast ?_).close hK
  simp [spPoolI]
theorem poolI_take_full {S : PS Int} {p : Nat} {x : Int} (hm : σ.m p = some (.comp (PoolRI S p))) (hfr : S.fr = []) (hl : ¬ (S.l.length : Int) < S.lim)
    (hK : ∀ k, σ.n ≤ k → K (.tuple #[.int .i64 0, .int .i64 0, .int .i64 8]) (σ.up k)) :
    Fn Try.prog B 44 #[.pointer (some ⟨p, 0, none⟩), .int .i64 x] σ K := by
  refine Fn.opn hm is44 (by simp) fun vs τ hn O => ?_
  obtain ⟨v1, v2, rfl, o1, o2⟩ := O.own.two
  obtain ⟨A1, c1, rfl, hc1⟩ := o1.is
  obtain ⟨A2, c2, rfl, hc2⟩ := o2.is
  have hroot := O.root
  simp only [poolRoot_two, hfr] at hroot
  simp only [b44, Try.f44, Option.getD_some]
  simp -implicitDefEqProofs (disch := first | omega | (simp only [St.set_n, St.up_n, List.length_cons, List.length_nil]; omega)) only [go_sem, Nat.reduceAdd, Nat.reduceMul, Nat.reduceSub, Int.reduceAdd, Int.reduceMul, Int.reduceSub, Int.reduceNeg, Int.reduceToNat, hroot, hl]
  exact O.close' hm hK
theorem poolI_take_nil {x : Int} (hK : K (.tuple #[.int .i64 0, .int .i64 0, .int .i64 8]) σ) : Fn Try.prog B 44 #[.pointer none, .int .i64 x] σ K := by
  refine Fn.of is44 (by simp) fun hwf => ?_
  simp only [b44, Try.f44, Option.getD_some]
  simp -implicitDefEqProofs (disch := first | omega | (simp only [St.set_n, St.up_n, List.length_cons, List.length_nil]; omega)) only [go_sem, Nat.reduceAdd, Nat.reduceMul, Nat.reduceSub, Int.reduceAdd, Int.reduceMul, Int.reduceSub, Int.reduceNeg, Int.reduceToNat]
  exact hK
theorem poolI_new {lim lim' : Int} (hl : max (min lim 65536) 0 = lim') (hK : ∀ k, σ.n < k → K (.pointer (some ⟨σ.n, 0, none⟩)) ((σ.set σ.n (.comp (PoolRI { l := [], fr := [], lim := lim' } σ.n))).up k)) : Fn Try.prog B 42 #[.int .i64 lim] σ K := by
  refine Fn.of' is42 (by simp) fun hwf => ?_
  simp only [b42, Try.f42, Option.getD_some]
  simp -implicitDefEqProofs (disch := first | omega | (simp only [St.set_n, St.up_n, List.length_cons, List.length_nil]; omega)) only [go_sem, Nat.reduceAdd, Nat.reduceMul, Nat.reduceSub, Int.reduceAdd, Int.reduceMul, Int.reduceSub, Int.reduceNeg, Int.reduceToNat, hl]
  refine ⟨_, To.closeO (ty := 123) (root := poolRoot lim') (sp := spPoolI { l := [], fr := [], lim := lim' }) [.slice none 0 0, .slice none 0 0] (by simp -implicitDefEqProofs (disch := first | omega | (simp only [St.set_n, St.up_n, List.length_cons, List.length_nil]; omega)) only [go_sem, Nat.reduceAdd, Nat.reduceMul, Nat.reduceSub, Int.reduceAdd, Int.reduceMul, Int.reduceSub, Int.reduceNeg, Int.reduceToNat]) ⟨Own.nil, Own.nil, trivial⟩ (by simp -implicitDefEqProofs (disch := first | omega | (simp only [St.set_n, St.up_n, List.length_cons, List.length_nil]; omega)) only [go_sem, Nat.reduceAdd, Nat.reduceMul, Nat.reduceSub, Int.reduceAdd, Int.reduceMul, Int.reduceSub, Int.reduceNeg, Int.reduceToNat]) (fun c x hc hx => ⟨by simp -implicitDefEqProofs (disch := first | omega | (simp only [St.set_n, St.up_n, List.length_cons, List.length_nil]; omega)) only [go_sem, Nat.reduceAdd, Nat.reduceMul, Nat.reduceSub, Int.reduceAdd, Int.reduceMul, Int.reduceSub, Int.reduceNeg, Int.reduceToNat, hx], by simp -implicitDefEqProofs (disch := first | omega | (simp only [St.set_n, St.up_n, List.length_cons, List.length_nil]; omega)) only [go_sem, Nat.reduceAdd, Nat.reduceMul, Nat.reduceSub, Int.reduceAdd, Int.reduceMul, Int.reduceSub, Int.reduceNeg, Int.reduceToNat]⟩), hK _ (by simp -implicitDefEqProofs (disch := first | omega | (simp only [St.set_n, St.up_n, List.length_cons, List.length_nil]; omega)) only [go_sem, Nat.reduceAdd, Nat.reduceMul, Nat.reduceSub, Int.reduceAdd, Int.reduceMul, Int.reduceSub, Int.reduceNeg, Int.reduceToNat]; omega)⟩
theorem poolI_give {S : PS Int} {p i : Nat} {y : Int} {s : Int} (hm : σ.m p = some (.comp (PoolRI S p))) (hi : S.l[i]? = some (y, s, true)) (hb : S.l.length ≤ 100000) (hb2 : S.fr.length ≤ 100000)
    (hK : ∀ k, σ.n ≤ k → K (.int .i64 0) ((σ.set p (.comp (PoolRI { S with l := S.l.set i (0, IntKind.i64.wrap (s + 1), false), fr := S.fr ++ [(i : Int) + 1] } p))).up k)) :
    Fn Try.prog B 46 #[.pointer (some ⟨p, 0, none⟩), .int .i64 (i + 1)] σ K := by
  obtain ⟨L, fr, lim⟩ := S
  simp only at hi hb hb2 hK
  refine Fn.opn hm is46 (by simp) fun vs τ hn O => ?_
  obtain ⟨v1, v2, rfl, o1, o2⟩ := O.own.two
  simp only at o1 o2
  have hil := (List.getElem?_eq_some_iff.1 hi).1
  obtain ⟨b1, c1, sp1, rfl, hc1, m1, l1, k1⟩ := o1.has (by first | omega | (simp only; omega))
  obtain ⟨A2, c2, rfl, hc2⟩ := o2.is
  have hroot := O.root
  have hap := O.apart
  simp only [poolRoot_two] at hroot
  simp only [go_sem] at hap
  obtain ⟨a1, a2, a3⟩ := hap
  simp only [b46, Try.f46, Option.getD_some]
  obtain ⟨p0, p1, p2⟩ := plI_cells sp1 hi
  simp -implicitDefEqProofs (disch := first | omega | (simp only [St.set_n, St.up_n, List.length_cons, List.length_nil]; omega)) only [go_sem, Nat.reduceAdd, Nat.reduceMul, Nat.reduceSub, Int.reduceAdd, Int.reduceMul, Int.reduceSub, Int.reduceNeg, Int.reduceToNat, hroot]
  refine callF_of (poolI_at hroot hil (by omega) ?_)
  have s0 := plI_set0 sp1 hi 0
  have hi' : (L.set i (0, s, true))[i]? = some (0, s, true) := by simp [hil]
  have s1 := plI_set1 sp1 hi' (IntKind.i64.wrap (s + 1))
  simp only [List.set_set] at s1
  have hi'' : (L.set i (0, IntKind.i64.wrap (s + 1), true))[i]? = some (0, IntKind.i64.wrap (s + 1), true) := by simp [hil]
  have s2 := plI_set2 sp1 hi'' false
  simp only [List.set_set] at s2
  have O1 := O.wr (i := 0) (x := ⟨125, 3, flat fPlI L, L.length⟩) (cs' := flat fPlI (L.set i (0, IntKind.i64.wrap (s + 1), false))) rfl rfl m1 (by simp [flat_length fPlI_len])
  simp only [List.set_cons_zero, spPoolI] at O1
  simp -implicitDefEqProofs (disch := first | omega | (simp only [St.set_n, St.up_n, List.length_cons, List.length_nil]; omega)) only [go_sem, Nat.reduceAdd, Nat.reduceMul, Nat.reduceSub, Int.reduceAdd, Int.reduceMul, Int.reduceSub, Int.reduceNeg, Int.reduceToNat, hroot, m1, p0, p1, p2, l1, s0, s1, s2]
  refine appO_one (O1.new (.raw (.cells #[.int .i64 (i + 1)] 3 (0, 0))) (k := τ.n + 1) (by simp -implicitDefEqProofs (disch := first | omega | (simp only [St.set_n, St.up_n, List.length_cons, List.length_nil]; omega)) only [go_sem, Nat.reduceAdd, Nat.reduceMul, Nat.reduceSub, Int.reduceAdd, Int.reduceMul, Int.reduceSub, Int.reduceNeg, Int.reduceToNat]; omega)) 1 (s := 1) (bts := 8) (ty' := 3) (fz := (0, 0)) (ys := [.int .i64 (i + 1)]) rfl rfl se43 kd43 zr3 rfl (by omega) (by simp -implicitDefEqProofs (disch := first | omega | (simp only [St.set_n, St.up_n, List.length_cons, List.length_nil]; omega)) only [go_sem, Nat.reduceAdd, Nat.reduceMul, Nat.reduceSub, Int.reduceAdd, Int.reduceMul, Int.reduceSub, Int.reduceNeg, Int.reduceToNat]) rfl rfl (by first | omega | (simp only; omega)) fun A' C' σ' hC' hp' hO hfr hn' => ?_
  have O2 := hO (poolRoot lim)
  simp only [List.set_cons_zero, List.set_cons_succ, poolRoot_two] at O2 hp'
  simp -implicitDefEqProofs (disch := first | omega | (simp only [St.set_n, St.up_n, List.length_cons, List.length_nil]; omega)) only [go_sem, Nat.reduceAdd, Nat.reduceMul, Nat.reduceSub, Int.reduceAdd, Int.reduceMul, Int.reduceSub, Int.reduceNeg, Int.reduceToNat, hp']
  refine (O2.cast ?_).close hK
  simp [spPoolI, ints]
theorem poolI_give_id {S : PS Int} {p i : Nat} {id : Int} (hid : id = (i : Int) + 1) {y : Int} {s : Int} (hm : σ.m p = some (.comp (PoolRI S p))) (hi : S.l[i]? = some (y, s, true)) (hb : S.l.length ≤ 100000) (hb2 : S.fr.length ≤ 100000)
    (hK : ∀ k, σ.n ≤ k → K (.int .i64 0) ((σ.set p (.comp (PoolRI { S with l := S.l.set i (0, IntKind.i64.wrap (s + 1), false), fr := S.fr ++ [id] } p))).up k)) :
    Fn Try.prog B 46 #[.pointer (some ⟨p, 0, none⟩), .int .i64 id] σ K := by
  subst hid
  exact poolI_give hm hi hb hb2 hK
theorem poolI_give_bad {S : PS Int} {p : Nat} {id : Int} (hm : σ.m p = some (.comp (PoolRI S p))) (hi : ∀ i : Nat, id = (i : Int) + 1 → ∀ x, S.l[i]? = some x → x.2.2 = false) (hb : S.l.length ≤ 100000)
    (hK : ∀ k, σ.n ≤ k → K (.int .i64 4) (σ.up k)) :
    Fn Try.prog B 46 #[.pointer (some ⟨p, 0, none⟩), .int .i64 id] σ K := by
  refine Fn.opn hm is46 (by simp) fun vs τ hn O => ?_
  obtain ⟨v1, v2, rfl, o1, o2⟩ := O.own.two
  simp only at o1 o2
  obtain ⟨A1, c1, rfl, hc1⟩ := o1.is
  obtain ⟨A2, c2, rfl, hc2⟩ := o2.is
  have hroot := O.root
  simp only [poolRoot_two] at hroot
  simp only [b46, Try.f46, Option.getD_some]
  simp -implicitDefEqProofs (disch := first | omega | (simp only [St.set_n, St.up_n, List.length_cons, List.length_nil]; omega)) only [go_sem, Nat.reduceAdd, Nat.reduceMul, Nat.reduceSub, Int.reduceAdd, Int.reduceMul, Int.reduceSub, Int.reduceNeg, Int.reduceToNat, hroot]
  by_cases hin : 1 ≤ id ∧ id ≤ S.l.length
  · obtain ⟨i, rfl⟩ : ∃ i : Nat, id = (i : Int) + 1 := ⟨(id - 1).toNat, by omega⟩
    have hil : i < S.l.length := by omega
    obtain ⟨b1, c1', sp1, e1, hc1', m1, l1, k1⟩ := o1.has (by omega)
    cases e1
    have hf := hi i rfl _ (List.getElem?_eq_getElem hil)
    obtain ⟨p0, p1, p2⟩ := plI_cells sp1 (List.getElem?_eq_getElem hil)
    rw [hf] at p2
    refine callF_of (poolI_at hroot hil (by omega) ?_)
    simp -implicitDefEqProofs (disch := first | omega | (simp only [St.set_n, St.up_n, List.length_cons, List.length_nil]; omega)) only [go_sem, Nat.reduceAdd, Nat.reduceMul, Nat.reduceSub, Int.reduceAdd, Int.reduceMul, Int.reduceSub, Int.reduceNeg, Int.reduceToNat, hroot, m1, p2]
    exact O.close' hm hK
  · refine callF_of (poolI_at_none hroot hin ?_)
    simp -implicitDefEqProofs (disch := first | omega | (simp only [St.set_n, St.up_n, List.length_cons, List.length_nil]; omega)) only [go_sem, Nat.reduceAdd, Nat.reduceMul, Nat.reduceSub, Int.reduceAdd, Int.reduceMul, Int.reduceSub, Int.reduceNeg, Int.reduceToNat]
    exact O.close' hm hK
theorem poolI_give_nil {id : Int} (hK : K (.int .i64 4) σ) : Fn Try.prog B 46 #[.pointer none, .int .i64 id] σ K := by
  refine Fn.of is46 (by simp) fun hwf => ?_
  simp only [b46, Try.f46, Option.getD_some]
  simp -implicitDefEqProofs (disch := first | omega | (simp only [St.set_n, St.up_n, List.length_cons, List.length_nil]; omega)) only [go_sem, Nat.reduceAdd, Nat.reduceMul, Nat.reduceSub, Int.reduceAdd, Int.reduceMul, Int.reduceSub, Int.reduceNeg, Int.reduceToNat]
  refine callF_of (poolI_at_nil ?_)
  simp -implicitDefEqProofs (disch := first | omega | (simp only [St.set_n, St.up_n, List.length_cons, List.length_nil]; omega)) only [go_sem, Nat.reduceAdd, Nat.reduceMul, Nat.reduceSub, Int.reduceAdd, Int.reduceMul, Int.reduceSub, Int.reduceNeg, Int.reduceToNat]
  exact hK
/-- What is got. -/
def getEI (S : PS Int) (id st : Int) : Int × Int :=
  if 1 ≤ id ∧ id ≤ S.l.length then (match S.l[(id - 1).toNat]? with | some (x, s, t) => if t = true ∧ s = st then (x, 0) else (0, 9) | none => (0, 4)) else (0, 4)
theorem poolI_get {S : PS Int} {p : Nat} {id st : Int} (hm : σ.m p = some (.comp (PoolRI S p))) (hb : S.l.length ≤ 100000)
    (hK : ∀ k, σ.n ≤ k → K (.tuple #[.int .i64 (getEI S id st).1, .int .i64 (getEI S id st).2]) (σ.up k)) :
    Fn Try.prog B 48 #[.pointer (some ⟨p, 0, none⟩), .int .i64 id, .int .i64 st] σ K := by
  refine Fn.opn hm is48 (by simp) fun vs τ hn O => ?_
  obtain ⟨v1, v2, rfl, o1, o2⟩ := O.own.two
  simp only at o1 o2
  obtain ⟨A1, c1, rfl, hc1⟩ := o1.is
  obtain ⟨A2, c2, rfl, hc2⟩ := o2.is
  have hroot := O.root
  simp only [poolRoot_two] at hroot
  simp only [b48, Try.f48, Option.getD_some]
  simp -implicitDefEqProofs (disch := first | omega | (simp only [St.set_n, St.up_n, List.length_cons, List.length_nil]; omega)) only [go_sem, Nat.reduceAdd, Nat.reduceMul, Nat.reduceSub, Int.reduceAdd, Int.reduceMul, Int.reduceSub, Int.reduceNeg, Int.reduceToNat, hroot]
  unfold getEI at hK
  by_cases hin : 1 ≤ id ∧ id ≤ S.l.length
  · rw [if_pos hin] at hK
    obtain ⟨i, rfl⟩ : ∃ i : Nat, id = (i : Int) + 1 := ⟨(id - 1).toNat, by omega⟩
    have hil : i < S.l.length := by omega
    have e9 : ((i : Int) + 1 - 1).toNat = i := by omega
    obtain ⟨b1, c1', sp1, e1, hc1', m1, l1, k1⟩ := o1.has (by omega)
    cases e1
    obtain ⟨⟨x, s, t⟩, hx⟩ : ∃ x, S.l[i]? = some x := ⟨_, List.getElem?_eq_getElem hil⟩
    rw [e9, hx] at hK
    obtain ⟨p0, p1, p2⟩ := plI_cells sp1 hx
    refine callF_of (poolI_at hroot hil (by omega) ?_)
    cases t with
    | false =>
      simp -implicitDefEqProofs (disch := first | omega | (simp only [St.set_n, St.up_n, List.length_cons, List.length_nil]; omega)) only [go_sem, Nat.reduceAdd, Nat.reduceMul, Nat.reduceSub, Int.reduceAdd, Int.reduceMul, Int.reduceSub, Int.reduceNeg, Int.reduceToNat, hroot, m1, p2]
      exact O.close' hm (by simpa using hK)
    | true =>
      by_cases hs : s = st
      · simp -implicitDefEqProofs (disch := first | omega | (simp only [St.set_n, St.up_n, List.length_cons, List.length_nil]; omega)) only [go_sem, Nat.reduceAdd, Nat.reduceMul, Nat.reduceSub, Int.reduceAdd, Int.reduceMul, Int.reduceSub, Int.reduceNeg, Int.reduceToNat, hroot, m1, p2, p1, p0, hs]
        exact O.close' hm (by simpa [hs] using hK)
      · simp -implicitDefEqProofs (disch := first | omega | (simp only [St.set_n, St.up_n, List.length_cons, List.length_nil]; omega)) only [go_sem, Nat.reduceAdd, Nat.reduceMul, Nat.reduceSub, Int.reduceAdd, Int.reduceMul, Int.reduceSub, Int.reduceNeg, Int.reduceToNat, hroot, m1, p2, p1, hs]
        exact O.close' hm (by simpa [hs] using hK)
  · rw [if_neg hin] at hK
    refine callF_of (poolI_at_none hroot hin ?_)
    simp -implicitDefEqProofs (disch := first | omega | (simp only [St.set_n, St.up_n, List.length_cons, List.length_nil]; omega)) only [go_sem, Nat.reduceAdd, Nat.reduceMul, Nat.reduceSub, Int.reduceAdd, Int.reduceMul, Int.reduceSub, Int.reduceNeg, Int.reduceToNat]
    exact O.close' hm hK
theorem poolI_get_nil {id st : Int} (hK : K (.tuple #[.int .i64 0, .int .i64 4]) σ) : Fn Try.prog B 48 #[.pointer none, .int .i64 id, .int .i64 st] σ K := by
  refine Fn.of is48 (by simp) fun hwf => ?_
  simp only [b48, Try.f48, Option.getD_some]
  simp -implicitDefEqProofs (disch := first | omega | (simp only [St.set_n, St.up_n, List.length_cons, List.length_nil]; omega)) only [go_sem, Nat.reduceAdd, Nat.reduceMul, Nat.reduceSub, Int.reduceAdd, Int.reduceMul, Int.reduceSub, Int.reduceNeg, Int.reduceToNat]
  refine callF_of (poolI_at_nil ?_)
  simp -implicitDefEqProofs (disch := first | omega | (simp only [St.set_n, St.up_n, List.length_cons, List.length_nil]; omega)) only [go_sem, Nat.reduceAdd, Nat.reduceMul, Nat.reduceSub, Int.reduceAdd, Int.reduceMul, Int.reduceSub, Int.reduceNeg, Int.reduceToNat]
  exact hK
theorem poolI_live {S : PS Int} {p : Nat} (hm : σ.m p = some (.comp (PoolRI S p))) (hb : S.l.length ≤ 100000) (hb2 : S.fr.length ≤ 100000)
    (hK : ∀ k, σ.n ≤ k → K (.int .i64 ((S.l.length : Int) - S.fr.length)) (σ.up k)) : Fn Try.prog B 53 #[.pointer (some ⟨p, 0, none⟩)] σ K := by
  refine Fn.opn hm is53 (by simp) fun vs τ hn O => ?_
  obtain ⟨v1, v2, rfl, o1, o2⟩ := O.own.two
  simp only at o1 o2
  obtain ⟨A1, c1, rfl, hc1⟩ := o1.is
  obtain ⟨A2, c2, rfl, hc2⟩ := o2.is
  have hroot := O.root
  simp only [poolRoot_two] at hroot
  simp only [b53, Try.f53, Option.getD_some]
  simp -implicitDefEqProofs (disch := first | omega | (simp only [St.set_n, St.up_n, List.length_cons, List.length_nil]; omega)) only [go_sem, Nat.reduceAdd, Nat.reduceMul, Nat.reduceSub, Int.reduceAdd, Int.reduceMul, Int.reduceSub, Int.reduceNeg, Int.reduceToNat, hroot]
  exact O.close' hm hK
theorem poolI_live_nil (hK : K (.int .i64 0) σ) : Fn Try.prog B 53 #[.pointer none] σ K := by
  refine Fn.of is53 (by simp) fun hwf => ?_
  simp only [b53, Try.f53, Option.getD_some]
  simp -implicitDefEqProofs (disch := first | omega | (simp only [St.set_n, St.up_n, List.length_cons, List.length_nil]; omega)) only [go_sem, Nat.reduceAdd, Nat.reduceMul, Nat.reduceSub, Int.reduceAdd, Int.reduceMul, Int.reduceSub, Int.reduceNeg, Int.reduceToNat]
  exact hK
def fPlS (x : Pl ByteArray) : List Value := [.string x.1, .int .i64 x.2.1, .bool x.2.2]
theorem fPlS_len (x : Pl ByteArray) : (fPlS x).length = 3 := rfl
def spPoolS (S : PS ByteArray) : List Sp := [⟨111, 3, flat fPlS S.l, S.l.length⟩, ⟨3, 1, ints S.fr, S.fr.length⟩]
abbrev PoolRS (S : PS ByteArray) (p : Nat) : Heaplet → Prop := Obj 109 (poolRoot S.lim) (spPoolS S) p
theorem plS_cells {L : List (Pl ByteArray)} {i : Nat} {x : Pl ByteArray} (sp : List Value) (h : L[i]? = some x) :
    (flat fPlS L ++ sp)[i * 3]? = some (.string x.1) ∧ (flat fPlS L ++ sp)[i * 3 + 1]? = some (.int .i64 x.2.1) ∧ (flat fPlS L ++ sp)[i * 3 + 2]? = some (.bool x.2.2) := by
  have h0 := flat_get fPlS_len L sp i x 0 _ h rfl
  have h1 := flat_get fPlS_len L sp i x 1 _ h rfl
  have h2 := flat_get fPlS_len L sp i x 2 _ h rfl
  exact ⟨by simpa using h0, h1, h2⟩
theorem plS_set0 {L : List (Pl ByteArray)} {i : Nat} {x : Pl ByteArray} (sp : List Value) (h : L[i]? = some x) (y : ByteArray) : (flat fPlS L ++ sp).set (i * 3) (.string y) = flat fPlS (L.set i (y, x.2.1, x.2.2)) ++ sp := by
  have := flat_set fPlS_len L sp i x (y, x.2.1, x.2.2) 0 (.string y) h (by omega) rfl
  simpa using this
theorem plS_set1 {L : List (Pl ByteArray)} {i : Nat} {x : Pl ByteArray} (sp : List Value) (h : L[i]? = some x) (y : Int) : (flat fPlS L ++ sp).set (i * 3 + 1) (.int .i64 y) = flat fPlS (L.set i (x.1, y, x.2.2)) ++ sp :=
  flat_set fPlS_len L sp i x (x.1, y, x.2.2) 1 (.int .i64 y) h (by omega) rfl
theorem plS_set2 {L : List (Pl ByteArray)} {i : Nat} {x : Pl ByteArray} (sp : List Value) (h : L[i]? = some x) (y : Bool) : (flat fPlS L ++ sp).set (i * 3 + 2) (.bool y) = flat fPlS (L.set i (x.1, x.2.1, y)) ++ sp :=
  flat_set fPlS_len L sp i x (x.1, x.2.1, y) 2 (.bool y) h (by omega) rfl

theorem poolS_at {b n cap p i : Nat} {v : Value} {lim : Int} (hr : σ.m p = some (.raw (.cells #[.slice (some ⟨b, 0, none⟩) n cap, v, .int .i64 lim] 109 (0, 0)))) (hi : i < n) (hn : n ≤ 1000000) (hK : K (.pointer (some ⟨b, i * 3, none⟩)) σ) :
    Fn Try.prog B 80 #[.pointer (some ⟨p, 0, none⟩), .int .i64 (i + 1)] σ K := by
  refine Fn.of is80 (by simp) fun hwf => ?_
  simp only [b80, Try.f80, Option.getD_some]
  have e1 : (i : Int) + 1 - 1 = i := by omega
  simp -implicitDefEqProofs (disch := first | omega | (simp only [St.set_n, St.up_n, List.length_cons, List.length_nil]; omega)) only [go_sem, Nat.reduceAdd, Nat.reduceMul, Nat.reduceSub, Int.reduceAdd, Int.reduceMul, Int.reduceSub, Int.reduceNeg, Int.reduceToNat, hr, e1]
  exact hK
theorem poolS_at_none {a : Option Addr} {n cap p : Nat} {v : Value} {lim id : Int} (hr : σ.m p = some (.raw (.cells #[.slice a n cap, v, .int .i64 lim] 109 (0, 0)))) (hi : ¬ (1 ≤ id ∧ id ≤ n)) (hK : K (.pointer none) σ) :
    Fn Try.prog B 80 #[.pointer (some ⟨p, 0, none⟩), .int .i64 id] σ K := by
  refine Fn.of is80 (by simp) fun hwf => ?_
  simp only [b80, Try.f80, Option.getD_some]
  by_cases h : id < 1
  · simp -implicitDefEqProofs (disch := first | omega | (simp only [St.set_n, St.up_n, List.length_cons, List.length_nil]; omega)) only [go_sem, Nat.reduceAdd, Nat.reduceMul, Nat.reduceSub, Int.reduceAdd, Int.reduceMul, Int.reduceSub, Int.reduceNeg, Int.reduceToNat, h]
    exact hK
  · have h2 : (n : Int) < id := by omega
    simp -implicitDefEqProofs (disch := first | omega | (simp only [St.set_n, St.up_n, List.length_cons, List.length_nil]; omega)) only [go_sem, Nat.reduceAdd, Nat.reduceMul, Nat.reduceSub, Int.reduceAdd, Int.reduceMul, Int.reduceSub, Int.reduceNeg, Int.reduceToNat, hr, h, h2]
    exact hK
theorem poolS_at_nil {id : Int} (hK : K (.pointer none) σ) : Fn Try.prog B 80 #[.pointer none, .int .i64 id] σ K := by
  refine Fn.of is80 (by simp) fun hwf => ?_
  simp only [b80, Try.f80, Option.getD_some]
  simp -implicitDefEqProofs (disch := first | omega | (simp only [St.set_n, St.up_n, List.length_cons, List.length_nil]; omega)) only [go_sem, Nat.reduceAdd, Nat.reduceMul, Nat.reduceSub, Int.reduceAdd, Int.reduceMul, Int.reduceSub, Int.reduceNeg, Int.reduceToNat]
  exact hK

/-- A place that was given back is taken. -/
theorem poolS_take_free {S : PS ByteArray} {p i : Nat} {x y : ByteArray} {s : Int} {t : Bool} {fr0 : List Int} (hm : σ.m p = some (.comp (PoolRS S p))) (hfr : S.fr = fr0 ++ [(i : Int) + 1]) (hi : S.l[i]? = some (y, s, t)) (hb : S.l.length ≤ 100000) (hb2 : S.fr.length ≤ 100000)
    (hK : ∀ k, σ.n ≤ k → K (.tuple #[.int .i64 (i + 1), .int .i64 s, .int .i64 0]) ((σ.set p (.comp (PoolRS { S with l := S.l.set i (x, s, true), fr := fr0 } p))).up k)) :
    Fn Try.prog B 32 #[.pointer (some ⟨p, 0, none⟩), .string x] σ K := by
  obtain ⟨L, fr, lim⟩ := S
  simp only at hfr hi hb hb2 hK
  subst hfr
  refine Fn.opn hm is32 (by simp) fun vs τ hn O => ?_
  obtain ⟨v1, v2, rfl, o1, o2⟩ := O.own.two
  have hil := (List.getElem?_eq_some_iff.1 hi).1
  obtain ⟨b1, c1, sp1, rfl, hc1, m1, l1, k1⟩ := o1.has (by first | omega | (simp only; omega))
  obtain ⟨b2, c2, sp2, rfl, hc2, m2, l2, k2⟩ := o2.has (by simp)
  have hroot := O.root
  have hap := O.apart
  simp only [poolRoot_two, List.length_append, List.length_cons, List.length_nil, Nat.zero_add] at hroot hc2 k2 hb2
  simp only at hc1 m1 l1 k1 m2 l2
  simp only [go_sem] at hap
  obtain ⟨a1, a2, a3⟩ := hap
  simp only [b32, Try.f32, Option.getD_some]
  have e1 : ((fr0.length + 1 : Nat) : Int) - 1 = (fr0.length : Nat) := by omega
  have g1 : (ints (fr0 ++ [(i : Int) + 1]) ++ sp2).toArray[fr0.length]? = some (.int .i64 ((i : Int) + 1)) := by
    have := ints_get (l := fr0 ++ [(i : Int) + 1]) (i := fr0.length) (x := (i : Int) + 1) (by simp) sp2
    simpa using this
  simp -implicitDefEqProofs (disch := first | omega | (simp only [St.set_n, St.up_n, List.length_cons, List.length_nil]; omega)) only [go_sem, Nat.reduceAdd, Nat.reduceMul, Nat.reduceSub, Int.reduceAdd, Int.reduceMul, Int.reduceSub, Int.reduceNeg, Int.reduceToNat, hroot, e1, m1, m2, g1]
  refine effD_cut (by kernel_rfl) ?_
  simp -implicitDefEqProofs (disch := first | omega | (simp only [St.set_n, St.up_n, List.length_cons, List.length_nil]; omega)) only [go_sem, Nat.reduceAdd, Nat.reduceMul, Nat.reduceSub, Int.reduceAdd, Int.reduceMul, Int.reduceSub, Int.reduceNeg, Int.reduceToNat, hroot, e1, m1, m2, g1]
  have O1 := O.tr (i := 1) (x' := ⟨3, 1, (ints (fr0 ++ [(i : Int) + 1])).take (fr0.length * 1), fr0.length⟩) rfl rfl (o2.trunc (k := fr0.length) (by simp)) (fun b h => h) (poolRoot lim)
  simp only [List.set_cons_zero, List.set_cons_succ, poolRoot_two, List.length_append, List.length_cons, List.length_nil, Nat.zero_add] at O1
  refine callF_of (poolS_at (b := b1) (n := L.length) (cap := c1) (v := .slice (some ⟨b2, 0, none⟩) fr0.length c2) (lim := lim) (by simp -implicitDefEqProofs (disch := first | omega | (simp only [St.set_n, St.up_n, List.length_cons, List.length_nil]; omega)) only [go_sem, Nat.reduceAdd, Nat.reduceMul, Nat.reduceSub, Int.reduceAdd, Int.reduceMul, Int.reduceSub, Int.reduceNeg, Int.reduceToNat]) hil (by omega) ?_)
  have s0 := plS_set0 sp1 hi x
  have hi' : (L.set i (x, s, t))[i]? = some (x, s, t) := by simp [hil]
  have s2 := plS_set2 sp1 hi' true
  simp only [List.set_set] at s2
  have l1' : (flat fPlS (L.set i (x, s, t)) ++ sp1).length = c1 * 3 := by rw [← s0]; simpa using l1
  have hi2 : (L.set i (x, s, true))[i]? = some (x, s, true) := by simp [hil]
  obtain ⟨_, q1, _⟩ := plS_cells sp1 hi2
  simp -implicitDefEqProofs (disch := first | omega | (simp only [St.set_n, St.up_n, List.length_cons, List.length_nil]; omega)) only [go_sem, Nat.reduceAdd, Nat.reduceMul, Nat.reduceSub, Int.reduceAdd, Int.reduceMul, Int.reduceSub, Int.reduceNeg, Int.reduceToNat, hroot, m1, m2, l1, l1', s0, s2, q1]
  refine ((O1.wr (i := 0) (x := ⟨111, 3, flat fPlS L, L.length⟩) (cs' := flat fPlS (L.set i (x, s, true))) rfl rfl (by simp -implicitDefEqProofs (disch := first | omega | (simp only [St.set_n, St.up_n, List.length_cons, List.length_nil]; omega)) only [go_sem, Nat.reduceAdd, Nat.reduceMul, Nat.reduceSub, Int.reduceAdd, Int.reduceMul, Int.reduceSub, Int.reduceNeg, Int.reduceToNat, m1]) (by simp [flat_length fPlS_len])).cast ?_).close hK
  simp [spPoolS, ints]
/-- A new place is taken. -/
theorem poolS_take_new {S : PS ByteArray} {p : Nat} {x : ByteArray} (hm : σ.m p = some (.comp (PoolRS S p))) (hfr : S.fr = []) (hl : (S.l.length : Int) < S.lim) (hb : S.l.length ≤ 100000)
    (hK : ∀ k, σ.n ≤ k → K (.tuple #[.int .i64 (S.l.length + 1), .int .i64 0, .int .i64 0]) ((σ.set p (.comp (PoolRS { S with l := S.l ++ [(x, 0, true)] } p))).up k)) :
    Fn Try.prog B 32 #[.pointer (some ⟨p, 0, none⟩), .string x] σ K := by
  obtain ⟨L, fr, lim⟩ := S
  simp only at hfr hl hb hK
  subst hfr
  refine Fn.opn hm is32 (by simp) fun vs τ hn O => ?_
  obtain ⟨v1, v2, rfl, o1, o2⟩ := O.own.two
  simp only at o1 o2
  obtain ⟨A1, c1, rfl, hc1⟩ := o1.is
  obtain ⟨A2, c2, rfl, hc2⟩ := o2.is
  simp only [List.length_nil] at O
  have hroot := O.root
  simp only [poolRoot_two] at hroot
  simp only [b32, Try.f32, Option.getD_some]
  simp -implicitDefEqProofs (disch := first | omega | (simp only [St.set_n, St.up_n, List.length_cons, List.length_nil]; omega)) only [go_sem, Nat.reduceAdd, Nat.reduceMul, Nat.reduceSub, Int.reduceAdd, Int.reduceMul, Int.reduceSub, Int.reduceNeg, Int.reduceToNat, hroot, hl]
  refine appO_one (O.new (.raw (.cells #[.string ⟨#[]⟩, .int .i64 0, .bool false] 111 (0, 0))) (k := τ.n + 1) (by omega)) 0 (s := 3) (bts := 32) (ty' := 111) (fz := (0, 0)) (ys := [.string ⟨#[]⟩, .int .i64 0, .bool false]) rfl rfl se107 kd107 zr111 rfl (by omega) (by simp -implicitDefEqProofs (disch := first | omega | (simp only [St.set_n, St.up_n, List.length_cons, List.length_nil]; omega)) only [go_sem, Nat.reduceAdd, Nat.reduceMul, Nat.reduceSub, Int.reduceAdd, Int.reduceMul, Int.reduceSub, Int.reduceNeg, Int.reduceToNat]) rfl rfl (by first | omega | (simp only; omega)) fun A' C' σ' hC' hp' hO hfr hn' => ?_
  have O1 := hO (poolRoot lim)
  simp only [List.set_cons_zero, List.set_cons_succ, poolRoot_two] at O1 hp'
  simp -implicitDefEqProofs (disch := first | omega | (simp only [St.set_n, St.up_n, List.length_cons, List.length_nil]; omega)) only [go_sem, Nat.reduceAdd, Nat.reduceMul, Nat.reduceSub, Int.reduceAdd, Int.reduceMul, Int.reduceSub, Int.reduceNeg, Int.reduceToNat, hp']
  generalize σ'.set p (.raw (.cells #[.slice A' (L.length + 1) C', .slice A2 0 c2, .int .i64 lim] 109 (0, 0))) = τ1 at O1 ⊢
  obtain ⟨v1, v2, e0, o1', o2'⟩ := O1.own.two
  obtain ⟨rfl, rfl⟩ : Value.slice A' (L.length + 1) C' = v1 ∧ Value.slice A2 0 c2 = v2 := by simpa using e0
  obtain ⟨b1, c1', sp1, e0', hc1', m1, l1, k1⟩ := o1'.has (by first | omega | (simp only; omega))
  cases e0'
  have hC2 : L.length + 1 ≤ C' := hC'
  have hroot1 := O1.root
  simp only [poolRoot_two] at hroot1
  have ef : flat fPlS L ++ [.string ⟨#[]⟩, .int .i64 0, .bool false] = flat fPlS (L ++ [(⟨#[]⟩, 0, false)]) := by simp [flat, fPlS]
  simp only [ef] at m1 l1 k1
  have e2 : ((L.length + 1 : Nat) : Int) = (L.length : Int) + 1 := by omega
  rw [e2]
  refine callF_of (poolS_at (b := b1) (n := L.length + 1) (cap := C') (v := .slice A2 0 c2) (lim := lim) (by simp -implicitDefEqProofs (disch := first | omega | (simp only [St.set_n, St.up_n, List.length_cons, List.length_nil]; omega)) only [go_sem, Nat.reduceAdd, Nat.reduceMul, Nat.reduceSub, Int.reduceAdd, Int.reduceMul, Int.reduceSub, Int.reduceNeg, Int.reduceToNat, hroot1]) (by omega) (by omega) ?_)
  have hi0 : (L ++ [((⟨#[]⟩, 0, false) : Pl ByteArray)])[L.length]? = some (⟨#[]⟩, 0, false) := by simp
  have hs1 : ∀ y : Pl ByteArray, (L ++ [((⟨#[]⟩, 0, false) : Pl ByteArray)]).set L.length y = L ++ [y] := fun y => by simp
  have s0 := plS_set0 sp1 hi0 x
  rw [hs1] at s0
  have hi1 : (L ++ [((x, 0, false) : Pl ByteArray)])[L.length]? = some (x, 0, false) := by simp
  have s2 := plS_set2 sp1 hi1 true
  simp only [List.set_append_right, Nat.le_refl, Nat.sub_self, List.set_cons_zero] at s2
  have hi2 : (L ++ [((x, 0, true) : Pl ByteArray)])[L.length]? = some (x, 0, true) := by simp
  obtain ⟨_, q1, _⟩ := plS_cells sp1 hi2
  have l1' : (flat fPlS (L ++ [(x, 0, false)]) ++ sp1).length = C' * 3 := by rw [← s0]; simpa using l1
  simp -implicitDefEqProofs (disch := first | omega | (simp only [St.set_n, St.up_n, List.length_cons, List.length_nil]; omega)) only [go_sem, Nat.reduceAdd, Nat.reduceMul, Nat.reduceSub, Int.reduceAdd, Int.reduceMul, Int.reduceSub, Int.reduceNeg, Int.reduceToNat, m1, l1, l1', s0, s2, q1]
  refine ((O1.wr (i := 0) (x := ⟨111, 3, flat fPlS L ++ [.string ⟨#[]⟩, .int .i64 0, .bool false], L.length + 1⟩) (cs' := flat fPlS (L ++ [(x, 0, true)])) rfl rfl (by simp only [ef]; exact m1) (by simp [flat_length fPlS_len]; omega)).cast ?_).close hK
  simp [spPoolS]
theorem poolS_take_full {S : PS ByteArray} {p : Nat} {x : ByteArray} (hm : σ.m p = some (.comp (PoolRS S p))) (hfr : S.fr = []) (hl : ¬ (S.l.length : Int) < S.lim)
    (hK : ∀ k, σ.n ≤ k → K (.tuple #[.int .i64 0, .int .i64 0, .int .i64 8]) (σ.up k)) :
    Fn Try.prog B 32 #[.pointer (some ⟨p, 0, none⟩), .string x] σ K := by
  refine Fn.opn hm is32 (by simp) fun vs τ hn O => ?_
  obtain ⟨v1, v2, rfl, o1, o2⟩ := O.own.two
  obtain ⟨A1, c1, rfl, hc1⟩ := o1.is
  obtain ⟨A2, c2, rfl, hc2⟩ := o2.is
  have hroot := O.root
  simp only [poolRoot_two, hfr] at hroot
  simp only [b32, Try.f32, Option.getD_some]
  simp -implicitDefEqProofs (disch := first | omega | (simp only [St.set_n, St.up_n, List.length_cons, List.length_nil]; omega)) only [go_sem, Nat.reduceAdd, Nat.reduceMul, Nat.reduceSub, Int.reduceAdd, Int.reduceMul, Int.reduceSub, Int.reduceNeg, Int.reduceToNat, hroot, hl]
  exact O.close' hm hK
theorem poolS_take_nil {x : ByteArray} (hK : K (.tuple #[.int .i64 0, .int .i64 0, .int .i64 8]) σ) : Fn Try.prog B 32 #[.pointer none, .string x] σ K := by
  refine Fn.of is32 (by simp) fun hwf => ?_
  simp only [b32, Try.f32, Option.getD_some]
  simp -implicitDefEqProofs (disch := first | omega | (simp only [St.set_n, St.up_n, List.length_cons, List.length_nil]; omega)) only [go_sem, Nat.reduceAdd, Nat.reduceMul, Nat.reduceSub, Int.reduceAdd, Int.reduceMul, Int.reduceSub, Int.reduceNeg, Int.reduceToNat]
  exact hK
theorem poolS_new {lim lim' : Int} (hl : max (min lim 65536) 0 = lim') (hK : ∀ k, σ.n < k → K (.pointer (some ⟨σ.n, 0, none⟩)) ((σ.set σ.n (.comp (PoolRS { l := [], fr := [], lim := lim' } σ.n))).up k)) : Fn Try.prog B 31 #[.int .i64 lim] σ K := by
  refine Fn.of' is31 (by simp) fun hwf => ?_
  simp only [b31, Try.f31, Option.getD_some]
  simp -implicitDefEqProofs (disch := first | omega | (simp only [St.set_n, St.up_n, List.length_cons, List.length_nil]; omega)) only [go_sem, Nat.reduceAdd, Nat.reduceMul, Nat.reduceSub, Int.reduceAdd, Int.reduceMul, Int.reduceSub, Int.reduceNeg, Int.reduceToNat, hl]
  refine ⟨_, To.closeO (ty := 109) (root := poolRoot lim') (sp := spPoolS { l := [], fr := [], lim := lim' }) [.slice none 0 0, .slice none 0 0] (by simp -implicitDefEqProofs (disch := first | omega | (simp only [St.set_n, St.up_n, List.length_cons, List.length_nil]; omega)) only [go_sem, Nat.reduceAdd, Nat.reduceMul, Nat.reduceSub, Int.reduceAdd, Int.reduceMul, Int.reduceSub, Int.reduceNeg, Int.reduceToNat]) ⟨Own.nil, Own.nil, trivial⟩ (by simp -implicitDefEqProofs (disch := first | omega | (simp only [St.set_n, St.up_n, List.length_cons, List.length_nil]; omega)) only [go_sem, Nat.reduceAdd, Nat.reduceMul, Nat.reduceSub, Int.reduceAdd, Int.reduceMul, Int.reduceSub, Int.reduceNeg, Int.reduceToNat]) (fun c x hc hx => ⟨by simp -implicitDefEqProofs (disch := first | omega | (simp only [St.set_n, St.up_n, List.length_cons, List.length_nil]; omega)) only [go_sem, Nat.reduceAdd, Nat.reduceMul, Nat.reduceSub, Int.reduceAdd, Int.reduceMul, Int.reduceSub, Int.reduceNeg, Int.reduceToNat, hx], by simp -implicitDefEqProofs (disch := first | omega | (simp only [St.set_n, St.up_n, List.length_cons, List.length_nil]; omega)) only [go_sem, Nat.reduceAdd, Nat.reduceMul, Nat.reduceSub, Int.reduceAdd, Int.reduceMul, Int.reduceSub, Int.reduceNeg, Int.reduceToNat]⟩), hK _ (by simp -implicitDefEqProofs (disch := first | omega | (simp only [St.set_n, St.up_n, List.length_cons, List.length_nil]; omega)) only [go_sem, Nat.reduceAdd, Nat.reduceMul, Nat.reduceSub, Int.reduceAdd, Int.reduceMul, Int.reduceSub, Int.reduceNeg, Int.reduceToNat]; omega)⟩
theorem poolS_give {S : PS ByteArray} {p i : Nat} {y : ByteArray} {s : Int} (hm : σ.m p = some (.comp (PoolRS S p))) (hi : S.l[i]? = some (y, s, true)) (hb : S.l.length ≤ 100000) (hb2 : S.fr.length ≤ 100000)
    (hK : ∀ k, σ.n ≤ k → K (.int .i64 0) ((σ.set p (.comp (PoolRS { S with l := S.l.set i (⟨#[]⟩, IntKind.i64.wrap (s + 1), false), fr := S.fr ++ [(i : Int) + 1] } p))).up k)) :
    Fn Try.prog B 34 #[.pointer (some ⟨p, 0, none⟩), .int .i64 (i + 1)] σ K := by
  obtain ⟨L, fr, lim⟩ := S
  simp only at hi hb hb2 hK
  refine Fn.opn hm is34 (by simp) fun vs τ hn O => ?_
  obtain ⟨v1, v2, rfl, o1, o2⟩ := O.own.two
  simp only at o1 o2
  have hil := (List.getElem?_eq_some_iff.1 hi).1
  obtain ⟨b1, c1, sp1, rfl, hc1, m1, l1, k1⟩ := o1.has (by first | omega | (simp only; omega))
  obtain ⟨A2, c2, rfl, hc2⟩ := o2.is
  have hroot := O.root
  have hap := O.apart
  simp only [poolRoot_two] at hroot
  simp only [go_sem] at hap
  obtain ⟨a1, a2, a3⟩ := hap
  simp only [b34, Try.f34, Option.getD_some]
  obtain ⟨p0, p1, p2⟩ := plS_cells sp1 hi
  simp -implicitDefEqProofs (disch := first | omega | (simp only [St.set_n, St.up_n, List.length_cons, List.length_nil]; omega)) only [go_sem, Nat.reduceAdd, Nat.reduceMul, Nat.reduceSub, Int.reduceAdd, Int.reduceMul, Int.reduceSub, Int.reduceNeg, Int.reduceToNat, hroot]
  refine callF_of (poolS_at hroot hil (by omega) ?_)
  have s0 := plS_set0 sp1 hi ⟨#[]⟩
  have hi' : (L.set i (⟨#[]⟩, s, true))[i]? = some (⟨#[]⟩, s, true) := by simp [hil]
  have s1 := plS_set1 sp1 hi' (IntKind.i64.wrap (s + 1))
  simp only [List.set_set] at s1
  have hi'' : (L.set i (⟨#[]⟩, IntKind.i64.wrap (s + 1), true))[i]? = some (⟨#[]⟩, IntKind.i64.wrap (s + 1), true) := by simp [hil]
  have s2 := plS_set2 sp1 hi'' false
  simp only [List.set_set] at s2
  have O1 := O.wr (i := 0) (x := ⟨111, 3, flat fPlS L, L.length⟩) (cs' := flat fPlS (L.set i (⟨#[]⟩, IntKind.i64.wrap (s + 1), false))) rfl rfl m1 (by simp [flat_length fPlS_len])
  simp only [List.set_cons_zero, spPoolS] at O1
  simp -implicitDefEqProofs (disch := first | omega | (simp only [St.set_n, St.up_n, List.length_cons, List.length_nil]; omega)) only [go_sem, Nat.reduceAdd, Nat.reduceMul, Nat.reduceSub, Int.reduceAdd, Int.reduceMul, Int.reduceSub, Int.reduceNeg, Int.reduceToNat, hroot, m1, p0, p1, p2, l1, s0, s1, s2]
  refine appO_one (O1.new (.raw (.cells #[.int .i64 (i + 1)] 3 (0, 0))) (k := τ.n + 1) (by simp -implicitDefEqProofs (disch := first | omega | (simp only [St.set_n, St.up_n, List.length_cons, List.length_nil]; omega)) only [go_sem, Nat.reduceAdd, Nat.reduceMul, Nat.reduceSub, Int.reduceAdd, Int.reduceMul, Int.reduceSub, Int.reduceNeg, Int.reduceToNat]; omega)) 1 (s := 1) (bts := 8) (ty' := 3) (fz := (0, 0)) (ys := [.int .i64 (i + 1)]) rfl rfl se43 kd43 zr3 rfl (by omega) (by simp -implicitDefEqProofs (disch := first | omega | (simp only [St.set_n, St.up_n, List.length_cons, List.length_nil]; omega)) only [go_sem, Nat.reduceAdd, Nat.reduceMul, Nat.reduceSub, Int.reduceAdd, Int.reduceMul, Int.reduceSub, Int.reduceNeg, Int.reduceToNat]) rfl rfl (by first | omega | (simp only; omega)) fun A' C' σ' hC' hp' hO hfr hn' => ?_
  have O2 := hO (poolRoot lim)
  simp only [List.set_cons_zero, List.set_cons_succ, poolRoot_two] at O2 hp'
  simp -implicitDefEqProofs (disch := first | omega | (simp only [St.set_n, St.up_n, List.length_cons, List.length_nil]; omega)) only [go_sem, Nat.reduceAdd, Nat.reduceMul, Nat.reduceSub, Int.reduceAdd, Int.reduceMul, Int.reduceSub, Int.reduceNeg, Int.reduceToNat, hp']
  refine (O2.cast ?_).close hK
  simp [spPoolS, ints]
theorem poolS_give_id {S : PS ByteArray} {p i : Nat} {id : Int} (hid : id = (i : Int) + 1) {y : ByteArray} {s : Int} (hm : σ.m p = some (.comp (PoolRS S p))) (hi : S.l[i]? = some (y, s, true)) (hb : S.l.length ≤ 100000) (hb2 : S.fr.length ≤ 100000)
    (hK : ∀ k, σ.n ≤ k → K (.int .i64 0) ((σ.set p (.comp (PoolRS { S with l := S.l.set i (⟨#[]⟩, IntKind.i64.wrap (s + 1), false), fr := S.fr ++ [id] } p))).up k)) :
    Fn Try.prog B 34 #[.pointer (some ⟨p, 0, none⟩), .int .i64 id] σ K := by
  subst hid
  exact poolS_give hm hi hb hb2 hK
theorem poolS_give_bad {S : PS ByteArray} {p : Nat} {id : Int} (hm : σ.m p = some (.comp (PoolRS S p))) (hi : ∀ i : Nat, id = (i : Int) + 1 → ∀ x, S.l[i]? = some x → x.2.2 = false) (hb : S.l.length ≤ 100000)
    (hK : ∀ k, σ.n ≤ k → K (.int .i64 4) (σ.up k)) :
    Fn Try.prog B 34 #[.pointer (some ⟨p, 0, none⟩), .int .i64 id] σ K := by
  refine Fn.opn hm is34 (by simp) fun vs τ hn O => ?_
  obtain ⟨v1, v2, rfl, o1, o2⟩ := O.own.two
  simp only at o1 o2
  obtain ⟨A1, c1, rfl, hc1⟩ := o1.is
  obtain ⟨A2, c2, rfl, hc2⟩ := o2.is
  have hroot := O.root
  simp only [poolRoot_two] at hroot
  simp only [b34, Try.f34, Option.getD_some]
  simp -implicitDefEqProofs (disch := first | omega | (simp only [St.set_n, St.up_n, List.length_cons, List.length_nil]; omega)) only [go_sem, Nat.reduceAdd, Nat.reduceMul, Nat.reduceSub, Int.reduceAdd, Int.reduceMul, Int.reduceSub, Int.reduceNeg, Int.reduceToNat, hroot]
  by_cases hin : 1 ≤ id ∧ id ≤ S.l.length
  · obtain ⟨i, rfl⟩ : ∃ i : Nat, id = (i : Int) + 1 := ⟨(id - 1).toNat, by omega⟩
    have hil : i < S.l.length := by omega
    obtain ⟨b1, c1', sp1, e1, hc1', m1, l1, k1⟩ := o1.has (by omega)
    cases e1
    have hf := hi i rfl _ (List.getElem?_eq_getElem hil)
    obtain ⟨p0, p1, p2⟩ := plS_cells sp1 (List.getElem?_eq_getElem hil)
    rw [hf] at p2
    refine callF_of (poolS_at hroot hil (by omega) ?_)
    simp -implicitDefEqProofs (disch := first | omega | (simp only [St.set_n, St.up_n, List.length_cons, List.length_nil]; omega)) only [go_sem, Nat.reduceAdd, Nat.reduceMul, Nat.reduceSub, Int.reduceAdd, Int.reduceMul, Int.reduceSub, Int.reduceNeg, Int.reduceToNat, hroot, m1, p2]
    exact O.close' hm hK
  · refine callF_of (poolS_at_none hroot hin ?_)
    simp -implicitDefEqProofs (disch := first | omega | (simp only [St.set_n, St.up_n, List.length_cons, List.length_nil]; omega)) only [go_sem, Nat.reduceAdd, Nat.reduceMul, Nat.reduceSub, Int.reduceAdd, Int.reduceMul, Int.reduceSub, Int.reduceNeg, Int.reduceToNat]
    exact O.close' hm hK
theorem poolS_give_nil {id : Int} (hK : K (.int .i64 4) σ) : Fn Try.prog B 34 #[.pointer none, .int .i64 id] σ K := by
  refine Fn.of is34 (by simp) fun hwf => ?_
  simp only [b34, Try.f34, Option.getD_some]
  simp -implicitDefEqProofs (disch := first | omega | (simp only [St.set_n, St.up_n, List.length_cons, List.length_nil]; omega)) only [go_sem, Nat.reduceAdd, Nat.reduceMul, Nat.reduceSub, Int.reduceAdd, Int.reduceMul, Int.reduceSub, Int.reduceNeg, Int.reduceToNat]
  refine callF_of (poolS_at_nil ?_)
  simp -implicitDefEqProofs (disch := first | omega | (simp only [St.set_n, St.up_n, List.length_cons, List.length_nil]; omega)) only [go_sem, Nat.reduceAdd, Nat.reduceMul, Nat.reduceSub, Int.reduceAdd, Int.reduceMul, Int.reduceSub, Int.reduceNeg, Int.reduceToNat]
  exact hK
/-- What is got. -/
def getES (S : PS ByteArray) (id st : Int) : ByteArray × Int :=
  if 1 ≤ id ∧ id ≤ S.l.length then (match S.l[(id - 1).toNat]? with | some (x, s, t) => if t = true ∧ s = st then (x, 0) else (⟨#[]⟩, 9) | none => (⟨#[]⟩, 4)) else (⟨#[]⟩, 4)
theorem poolS_get {S : PS ByteArray} {p : Nat} {id st : Int} (hm : σ.m p = some (.comp (PoolRS S p))) (hb : S.l.length ≤ 100000)
    (hK : ∀ k, σ.n ≤ k → K (.tuple #[.string (getES S id st).1, .int .i64 (getES S id st).2]) (σ.up k)) :
    Fn Try.prog B 35 #[.pointer (some ⟨p, 0, none⟩), .int .i64 id, .int .i64 st] σ K := by
  refine Fn.opn hm is35 (by simp) fun vs τ hn O => ?_
  obtain ⟨v1, v2, rfl, o1, o2⟩ := O.own.two
  simp only at o1 o2
  obtain ⟨A1, c1, rfl, hc1⟩ := o1.is
  obtain ⟨A2, c2, rfl, hc2⟩ := o2.is
  have hroot := O.root
  simp only [poolRoot_two] at hroot
  simp only [b35, Try.f35, Option.getD_some]
  simp -implicitDefEqProofs (disch := first | omega | (simp only [St.set_n, St.up_n, List.length_cons, List.length_nil]; omega)) only [go_sem, Nat.reduceAdd, Nat.reduceMul, Nat.reduceSub, Int.reduceAdd, Int.reduceMul, Int.reduceSub, Int.reduceNeg, Int.reduceToNat, hroot]
  unfold getES at hK
  by_cases hin : 1 ≤ id ∧ id ≤ S.l.length
  · rw [if_pos hin] at hK
    obtain ⟨i, rfl⟩ : ∃ i : Nat, id = (i : Int) + 1 := ⟨(id - 1).toNat, by omega⟩
    have hil : i < S.l.length := by omega
    have e9 : ((i : Int) + 1 - 1).toNat = i := by omega
    obtain ⟨b1, c1', sp1, e1, hc1', m1, l1, k1⟩ := o1.has (by omega)
    cases e1
    obtain ⟨⟨x, s, t⟩, hx⟩ : ∃ x, S.l[i]? = some x := ⟨_, List.getElem?_eq_getElem hil⟩
    rw [e9, hx] at hK
    obtain ⟨p0, p1, p2⟩ := plS_cells sp1 hx
    refine callF_of (poolS_at hroot hil (by omega) ?_)
    cases t with
    | false =>
      simp -implicitDefEqProofs (disch := first | omega | (simp only [St.set_n, St.up_n, List.length_cons, List.length_nil]; omega)) only [go_sem, Nat.reduceAdd, Nat.reduceMul, Nat.reduceSub, Int.reduceAdd, Int.reduceMul, Int.reduceSub, Int.reduceNeg, Int.reduceToNat, hroot, m1, p2]
      exact O.close' hm (by simpa using hK)
    | true =>
      by_cases hs : s = st
      · simp -implicitDefEqProofs (disch := first | omega | (simp only [St.set_n, St.up_n, List.length_cons, List.length_nil]; omega)) only [go_sem, Nat.reduceAdd, Nat.reduceMul, Nat.reduceSub, Int.reduceAdd, Int.reduceMul, Int.reduceSub, Int.reduceNeg, Int.reduceToNat, hroot, m1, p2, p1, p0, hs]
        exact O.close' hm (by simpa [hs] using hK)
      · simp -implicitDefEqProofs (disch := first | omega | (simp only [St.set_n, St.up_n, List.length_cons, List.length_nil]; omega)) only [go_sem, Nat.reduceAdd, Nat.reduceMul, Nat.reduceSub, Int.reduceAdd, Int.reduceMul, Int.reduceSub, Int.reduceNeg, Int.reduceToNat, hroot, m1, p2, p1, hs]
        exact O.close' hm (by simpa [hs] using hK)
  · rw [if_neg hin] at hK
    refine callF_of (poolS_at_none hroot hin ?_)
    simp -implicitDefEqProofs (disch := first | omega | (simp only [St.set_n, St.up_n, List.length_cons, List.length_nil]; omega)) only [go_sem, Nat.reduceAdd, Nat.reduceMul, Nat.reduceSub, Int.reduceAdd, Int.reduceMul, Int.reduceSub, Int.reduceNeg, Int.reduceToNat]
    exact O.close' hm hK
theorem poolS_get_nil {id st : Int} (hK : K (.tuple #[.string ⟨#[]⟩, .int .i64 4]) σ) : Fn Try.prog B 35 #[.pointer none, .int .i64 id, .int .i64 st] σ K := by
  refine Fn.of is35 (by simp) fun hwf => ?_
  simp only [b35, Try.f35, Option.getD_some]
  simp -implicitDefEqProofs (disch := first | omega | (simp only [St.set_n, St.up_n, List.length_cons, List.length_nil]; omega)) only [go_sem, Nat.reduceAdd, Nat.reduceMul, Nat.reduceSub, Int.reduceAdd, Int.reduceMul, Int.reduceSub, Int.reduceNeg, Int.reduceToNat]
  refine callF_of (poolS_at_nil ?_)
  simp -implicitDefEqProofs (disch := first | omega | (simp only [St.set_n, St.up_n, List.length_cons, List.length_nil]; omega)) only [go_sem, Nat.reduceAdd, Nat.reduceMul, Nat.reduceSub, Int.reduceAdd, Int.reduceMul, Int.reduceSub, Int.reduceNeg, Int.reduceToNat]
  exact hK
theorem poolS_live {S : PS ByteArray} {p : Nat} (hm : σ.m p = some (.comp (PoolRS S p))) (hb : S.l.length ≤ 100000) (hb2 : S.fr.length ≤ 100000)
    (hK : ∀ k, σ.n ≤ k → K (.int .i64 ((S.l.length : Int) - S.fr.length)) (σ.up k)) : Fn Try.prog B 33 #[.pointer (some ⟨p, 0, none⟩)] σ K := by
  refine Fn.opn hm is33 (by simp) fun vs τ hn O => ?_
  obtain ⟨v1, v2, rfl, o1, o2⟩ := O.own.two
  simp only at o1 o2
  obtain ⟨A1, c1, rfl, hc1⟩ := o1.is
  obtain ⟨A2, c2, rfl, hc2⟩ := o2.is
  have hroot := O.root
  simp only [poolRoot_two] at hroot
  simp only [b33, Try.f33, Option.getD_some]
  simp -implicitDefEqProofs (disch := first | omega | (simp only [St.set_n, St.up_n, List.length_cons, List.length_nil]; omega)) only [go_sem, Nat.reduceAdd, Nat.reduceMul, Nat.reduceSub, Int.reduceAdd, Int.reduceMul, Int.reduceSub, Int.reduceNeg, Int.reduceToNat, hroot]
  exact O.close' hm hK
theorem poolS_live_nil (hK : K (.int .i64 0) σ) : Fn Try.prog B 33 #[.pointer none] σ K := by
  refine Fn.of is33 (by simp) fun hwf => ?_
  simp only [b33, Try.f33, Option.getD_some]
  simp -implicitDefEqProofs (disch := first | omega | (simp only [St.set_n, St.up_n, List.length_cons, List.length_nil]; omega)) only [go_sem, Nat.reduceAdd, Nat.reduceMul, Nat.reduceSub, Int.reduceAdd, Int.reduceMul, Int.reduceSub, Int.reduceNeg, Int.reduceToNat]
  exact hK
theorem pool_len {S : PS Int} {p : Nat} (hm : σ.m p = some (.comp (PoolRI S p))) (hK : ∀ k, σ.n ≤ k → K (.int .i64 S.l.length) (σ.up k)) : Fn Try.prog B 52 #[.pointer (some ⟨p, 0, none⟩)] σ K := by
  refine Fn.opn hm is52 (by simp) fun vs τ hn O => ?_
  obtain ⟨v1, v2, rfl, o1, o2⟩ := O.own.two
  simp only at o1 o2
  obtain ⟨A1, c1, rfl, hc1⟩ := o1.is
  have hroot := O.root
  simp only [poolRoot_two] at hroot
  simp only [b52, Try.f52, Option.getD_some]
  simp -implicitDefEqProofs (disch := first | omega | (simp only [St.set_n, St.up_n, List.length_cons, List.length_nil]; omega)) only [go_sem, Nat.reduceAdd, Nat.reduceMul, Nat.reduceSub, Int.reduceAdd, Int.reduceMul, Int.reduceSub, Int.reduceNeg, Int.reduceToNat, hroot]
  exact O.close' hm hK
theorem pool_len_nil (hK : K (.int .i64 0) σ) : Fn Try.prog B 52 #[.pointer none] σ K := by
  refine Fn.of is52 (by simp) fun hwf => ?_
  simp only [b52, Try.f52, Option.getD_some]
  simp -implicitDefEqProofs (disch := first | omega | (simp only [St.set_n, St.up_n, List.length_cons, List.length_nil]; omega)) only [go_sem, Nat.reduceAdd, Nat.reduceMul, Nat.reduceSub, Int.reduceAdd, Int.reduceMul, Int.reduceSub, Int.reduceNeg, Int.reduceToNat]
  exact hK
def stampE (l : List (Pl Int)) (id : Int) : Int := if 1 ≤ id ∧ id ≤ l.length then (match l[(id - 1).toNat]? with | some (_, s, _) => s | none => -1) else -1
theorem pool_stamp {S : PS Int} {p : Nat} {id : Int} (hm : σ.m p = some (.comp (PoolRI S p))) (hb : S.l.length ≤ 100000) (hK : ∀ k, σ.n ≤ k → K (.int .i64 (stampE S.l id)) (σ.up k)) : Fn Try.prog B 51 #[.pointer (some ⟨p, 0, none⟩), .int .i64 id] σ K := by
  refine Fn.opn hm is51 (by simp) fun vs τ hn O => ?_
  obtain ⟨v1, v2, rfl, o1, o2⟩ := O.own.two
  simp only at o1 o2
  obtain ⟨A1, c1, rfl, hc1⟩ := o1.is
  have hroot := O.root
  simp only [poolRoot_two] at hroot
  simp only [b51, Try.f51, Option.getD_some]
  simp -implicitDefEqProofs (disch := first | omega | (simp only [St.set_n, St.up_n, List.length_cons, List.length_nil]; omega)) only [go_sem, Nat.reduceAdd, Nat.reduceMul, Nat.reduceSub, Int.reduceAdd, Int.reduceMul, Int.reduceSub, Int.reduceNeg, Int.reduceToNat, hroot]
  unfold stampE at hK
  by_cases hin : 1 ≤ id ∧ id ≤ S.l.length
  · rw [if_pos hin] at hK
    obtain ⟨i, rfl⟩ : ∃ i : Nat, id = (i : Int) + 1 := ⟨(id - 1).toNat, by omega⟩
    have hil : i < S.l.length := by omega
    have e9 : ((i : Int) + 1 - 1).toNat = i := by omega
    obtain ⟨b1, c1', sp1, e1, hc1', m1, l1, k1⟩ := o1.has (by omega)
    cases e1
    obtain ⟨⟨x, s, t⟩, hx⟩ : ∃ x, S.l[i]? = some x := ⟨_, List.getElem?_eq_getElem hil⟩
    rw [e9, hx] at hK
    obtain ⟨p0, p1, p2⟩ := plI_cells sp1 hx
    refine callF_of (poolI_at hroot hil (by omega) ?_)
    simp -implicitDefEqProofs (disch := first | omega | (simp only [St.set_n, St.up_n, List.length_cons, List.length_nil]; omega)) only [go_sem, Nat.reduceAdd, Nat.reduceMul, Nat.reduceSub, Int.reduceAdd, Int.reduceMul, Int.reduceSub, Int.reduceNeg, Int.reduceToNat, hroot, m1, p1]
    exact O.close' hm hK
  · rw [if_neg hin] at hK
    refine callF_of (poolI_at_none hroot hin ?_)
    simp -implicitDefEqProofs (disch := first | omega | (simp only [St.set_n, St.up_n, List.length_cons, List.length_nil]; omega)) only [go_sem, Nat.reduceAdd, Nat.reduceMul, Nat.reduceSub, Int.reduceAdd, Int.reduceMul, Int.reduceSub, Int.reduceNeg, Int.reduceToNat]
    exact O.close' hm hK
theorem pool_stamp_nil {id : Int} (hK : K (.int .i64 (-1)) σ) : Fn Try.prog B 51 #[.pointer none, .int .i64 id] σ K := by
  refine Fn.of is51 (by simp) fun hwf => ?_
  simp only [b51, Try.f51, Option.getD_some]
  simp -implicitDefEqProofs (disch := first | omega | (simp only [St.set_n, St.up_n, List.length_cons, List.length_nil]; omega)) only [go_sem, Nat.reduceAdd, Nat.reduceMul, Nat.reduceSub, Int.reduceAdd, Int.reduceMul, Int.reduceSub, Int.reduceNeg, Int.reduceToNat]
  refine callF_of (poolI_at_nil ?_)
  simp -implicitDefEqProofs (disch := first | omega | (simp only [St.set_n, St.up_n, List.length_cons, List.length_nil]; omega)) only [go_sem, Nat.reduceAdd, Nat.reduceMul, Nat.reduceSub, Int.reduceAdd, Int.reduceMul, Int.reduceSub, Int.reduceNeg, Int.reduceToNat]
  exact hK
end
end Go.Proofs.Ytbjgoajdfdonfaa
