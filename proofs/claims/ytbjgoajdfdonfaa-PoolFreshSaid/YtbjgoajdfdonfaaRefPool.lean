/- The document's own pool: contracts, by walks. -/
import Derived.Test.YtbjgoajdfdonfaaPool
namespace Go.Proofs.Ytbjgoajdfdonfaa
set_option linter.unusedSimpArgs false
set_option linter.unusedVariables false
open Go Go.RowKit
section
variable {B : World} {σ : St} {K : Value → St → Prop}

def refRoot (lim : Int) : List Value → List Value
  | [a, b, c, d] => [a, b, c, d, .int .i64 lim]
  | _ => []
@[go_sem] theorem refRoot_four {lim : Int} {a b c d : Value} : refRoot lim [a, b, c, d] = [a, b, c, d, .int .i64 lim] := rfl
def spRef (S : PS Int) : List Sp := [⟨3, 1, ints (S.l.map (·.1)), S.l.length⟩, ⟨3, 1, ints (S.l.map (·.2.1)), S.l.length⟩, ⟨4, 1, bools (S.l.map (·.2.2)), S.l.length⟩, ⟨3, 1, ints S.fr, S.fr.length⟩]
abbrev RefR (S : PS Int) (p : Nat) : Heaplet → Prop := Obj 81 (refRoot S.lim) (spRef S) p
theorem map_get {α β : Type} {L : List α} {i : Nat} {x : α} (f : α → β) (h : L[i]? = some x) : (L.map f)[i]? = some (f x) := by simp [h]
theorem map_set' {α β : Type} {L : List α} {i : Nat} (f : α → β) {x : α} {y : β} (e : f x = y) : (L.map f).set i y = (L.set i x).map f := by rw [List.map_set, e]
theorem map_same {α β : Type} {L : List α} {i : Nat} (f : α → β) {x y : α} (h : L[i]? = some x) (e : f y = f x) : (L.set i y).map f = L.map f := by
  rw [List.map_set, e]
  apply List.ext_getElem?
  intro j
  by_cases hj : j = i
  · subst hj
    have := (List.getElem?_eq_some_iff.1 h).1
    rw [List.getElem?_set_self (by simpa using this)]; simp [h]
  · rw [List.getElem?_set_ne (Ne.symm hj)]

theorem refp_new {lim lim' : Int} (hl : max 0 (min lim 65536) = lim') (hK : ∀ k, σ.n < k → K (.pointer (some ⟨σ.n, 0, none⟩)) ((σ.set σ.n (.comp (RefR { l := [], fr := [], lim := lim' } σ.n))).up k)) : Fn Try.prog B 43 #[.int .i64 lim] σ K := by
  refine Fn.of' is43 (by simp) fun hwf => ?_
  simp only [b43, Try.f43, Option.getD_some]
  simp -implicitDefEqProofs (disch := first | omega | (simp only [St.set_n, St.up_n, List.length_cons, List.length_nil]; omega)) only [go_sem, Nat.reduceAdd, Nat.reduceMul, Nat.reduceSub, Int.reduceAdd, Int.reduceMul, Int.reduceSub, Int.reduceNeg, Int.reduceToNat, hl]
  refine ⟨_, To.closeO (ty := 81) (root := refRoot lim') (sp := spRef { l := [], fr := [], lim := lim' }) [.slice none 0 0, .slice none 0 0, .slice none 0 0, .slice none 0 0] (by simp -implicitDefEqProofs (disch := first | omega | (simp only [St.set_n, St.up_n, List.length_cons, List.length_nil]; omega)) only [go_sem, Nat.reduceAdd, Nat.reduceMul, Nat.reduceSub, Int.reduceAdd, Int.reduceMul, Int.reduceSub, Int.reduceNeg, Int.reduceToNat]) ⟨Own.nil, Own.nil, Own.nil, Own.nil, trivial⟩ (by simp -implicitDefEqProofs (disch := first | omega | (simp only [St.set_n, St.up_n, List.length_cons, List.length_nil]; omega)) only [go_sem, Nat.reduceAdd, Nat.reduceMul, Nat.reduceSub, Int.reduceAdd, Int.reduceMul, Int.reduceSub, Int.reduceNeg, Int.reduceToNat]) (fun c x hc hx => ⟨by simp -implicitDefEqProofs (disch := first | omega | (simp only [St.set_n, St.up_n, List.length_cons, List.length_nil]; omega)) only [go_sem, Nat.reduceAdd, Nat.reduceMul, Nat.reduceSub, Int.reduceAdd, Int.reduceMul, Int.reduceSub, Int.reduceNeg, Int.reduceToNat, hx], by simp -implicitDefEqProofs (disch := first | omega | (simp only [St.set_n, St.up_n, List.length_cons, List.length_nil]; omega)) only [go_sem, Nat.reduceAdd, Nat.reduceMul, Nat.reduceSub, Int.reduceAdd, Int.reduceMul, Int.reduceSub, Int.reduceNeg, Int.reduceToNat]⟩), hK _ (by simp -implicitDefEqProofs (disch := first | omega | (simp only [St.set_n, St.up_n, List.length_cons, List.length_nil]; omega)) only [go_sem, Nat.reduceAdd, Nat.reduceMul, Nat.reduceSub, Int.reduceAdd, Int.reduceMul, Int.reduceSub, Int.reduceNeg, Int.reduceToNat]; omega)⟩
/-- Of an object that lies open. -/
theorem refp_there_o {p n : Nat} {A : Option Addr} {c1 : Nat} {v2 v3 v4 : Value} {lim id : Int} (hr : σ.m p = some (.raw (.cells #[.slice A n c1, v2, v3, v4, .int .i64 lim] 81 (0, 0)))) (hK : K (.bool (decide (1 ≤ id ∧ id ≤ n))) σ) :
    Fn Try.prog B 50 #[.pointer (some ⟨p, 0, none⟩), .int .i64 id] σ K := by
  refine Fn.of is50 (by simp) fun hwf => ?_
  simp only [b50, Try.f50, Option.getD_some]
  by_cases h : 1 ≤ id
  · simp -implicitDefEqProofs (disch := first | omega | (simp only [St.set_n, St.up_n, List.length_cons, List.length_nil]; omega)) only [go_sem, Nat.reduceAdd, Nat.reduceMul, Nat.reduceSub, Int.reduceAdd, Int.reduceMul, Int.reduceSub, Int.reduceNeg, Int.reduceToNat, hr, h]
    simpa [h] using hK
  · simp -implicitDefEqProofs (disch := first | omega | (simp only [St.set_n, St.up_n, List.length_cons, List.length_nil]; omega)) only [go_sem, Nat.reduceAdd, Nat.reduceMul, Nat.reduceSub, Int.reduceAdd, Int.reduceMul, Int.reduceSub, Int.reduceNeg, Int.reduceToNat, hr, h]
    simpa [h] using hK
theorem refp_there {S : PS Int} {p : Nat} {id : Int} (hm : σ.m p = some (.comp (RefR S p))) (hK : ∀ k, σ.n ≤ k → K (.bool (decide (1 ≤ id ∧ id ≤ S.l.length))) (σ.up k)) :
    Fn Try.prog B 50 #[.pointer (some ⟨p, 0, none⟩), .int .i64 id] σ K := by
  refine Fn.opn hm is50 (by simp) fun vs τ hn O => ?_
  obtain ⟨v1, v2, v3, v4, rfl, o1, o2, o3, o4⟩ := O.own.four
  obtain ⟨A1, c1, rfl, hc1⟩ := o1.is
  have hroot := O.root
  simp only [refRoot_four] at hroot
  simp only [b50, Try.f50, Option.getD_some]
  by_cases h : 1 ≤ id
  · simp -implicitDefEqProofs (disch := first | omega | (simp only [St.set_n, St.up_n, List.length_cons, List.length_nil]; omega)) only [go_sem, Nat.reduceAdd, Nat.reduceMul, Nat.reduceSub, Int.reduceAdd, Int.reduceMul, Int.reduceSub, Int.reduceNeg, Int.reduceToNat, hroot, h]
    exact O.close' hm (by simpa [h] using hK)
  · simp -implicitDefEqProofs (disch := first | omega | (simp only [St.set_n, St.up_n, List.length_cons, List.length_nil]; omega)) only [go_sem, Nat.reduceAdd, Nat.reduceMul, Nat.reduceSub, Int.reduceAdd, Int.reduceMul, Int.reduceSub, Int.reduceNeg, Int.reduceToNat, hroot, h]
    exact O.close' hm (by simpa [h] using hK)
theorem refp_take_full {S : PS Int} {p : Nat} {x : Int} (hm : σ.m p = some (.comp (RefR S p))) (hfr : S.fr = []) (hl : ¬ (S.l.length : Int) < S.lim)
    (hK : ∀ k, σ.n ≤ k → K (.tuple #[.int .i64 0, .int .i64 0, .int .i64 8]) (σ.up k)) :
    Fn Try.prog B 45 #[.pointer (some ⟨p, 0, none⟩), .int .i64 x] σ K := by
  refine Fn.opn hm is45 (by simp) fun vs τ hn O => ?_
  obtain ⟨v1, v2, v3, v4, rfl, o1, o2, o3, o4⟩ := O.own.four
  obtain ⟨A1, c1, rfl, hc1⟩ := o1.is
  obtain ⟨A4, c4, rfl, hc4⟩ := o4.is
  have hroot := O.root
  simp only [refRoot_four, hfr] at hroot
  have hl' : S.lim ≤ S.l.length := by omega
  simp only [b45, Try.f45, Option.getD_some]
  simp -implicitDefEqProofs (disch := first | omega | (simp only [St.set_n, St.up_n, List.length_cons, List.length_nil]; omega)) only [go_sem, Nat.reduceAdd, Nat.reduceMul, Nat.reduceSub, Int.reduceAdd, Int.reduceMul, Int.reduceSub, Int.reduceNeg, Int.reduceToNat, hroot, hl']
  exact O.close' hm hK
theorem refp_take_free {S : PS Int} {p i : Nat} {x y : Int} {s : Int} {t : Bool} {fr0 : List Int} (hm : σ.m p = some (.comp (RefR S p))) (hfr : S.fr = fr0 ++ [(i : Int) + 1]) (hi : S.l[i]? = some (y, s, t)) (hb : S.l.length ≤ 100000) (hb2 : S.fr.length ≤ 100000)
    (hK : ∀ k, σ.n ≤ k → K (.tuple #[.int .i64 (i + 1), .int .i64 s, .int .i64 0]) ((σ.set p (.comp (RefR { S with l := S.l.set i (x, s, true), fr := fr0 } p))).up k)) :
    Fn Try.prog B 45 #[.pointer (some ⟨p, 0, none⟩), .int .i64 x] σ K := by
  obtain ⟨L, fr, lim⟩ := S
  simp only at hfr hi hb hb2 hK
  subst hfr
  refine Fn.opn hm is45 (by simp) fun vs τ hn O => ?_
  obtain ⟨v1, v2, v3, v4, rfl, o1, o2, o3, o4⟩ := O.own.four
  have hil := (List.getElem?_eq_some_iff.1 hi).1
  obtain ⟨b1, c1, sp1, rfl, hc1, m1, l1, k1⟩ := o1.has (by simp only; omega)
  obtain ⟨b2, c2, sp2, rfl, hc2, m2, l2, k2⟩ := o2.has (by simp only; omega)
  obtain ⟨b3, c3, sp3, rfl, hc3, m3, l3, k3⟩ := o3.has (by simp only; omega)
  obtain ⟨b4, c4, sp4, rfl, hc4, m4, l4, k4⟩ := o4.has (by simp)
  simp only [List.length_append, List.length_cons, List.length_nil, Nat.zero_add] at hc4 l4 k4 hb2
  simp only at hc1 hc2 hc3 m1 m2 m3 m4 l1 l2 l3
  have hroot := O.root
  simp only [refRoot_four, List.length_append, List.length_cons, List.length_nil, Nat.zero_add] at hroot
  have hpn := (O.wf.2 _ _ O.root).2
  simp only [b45, Try.f45, Option.getD_some]
  have e1 : ((fr0.length + 1 : Nat) : Int) - 1 = (fr0.length : Nat) := by omega
  have g1 : (ints (fr0 ++ [(i : Int) + 1]) ++ sp4).toArray[fr0.length]? = some (.int .i64 ((i : Int) + 1)) := by
    have := ints_get (l := fr0 ++ [(i : Int) + 1]) (i := fr0.length) (x := (i : Int) + 1) (by simp) sp4
    simpa using this
  simp -implicitDefEqProofs (disch := first | omega | (simp only [St.set_n, St.up_n, List.length_cons, List.length_nil]; omega)) only [go_sem, Nat.reduceAdd, Nat.reduceMul, Nat.reduceSub, Int.reduceAdd, Int.reduceMul, Int.reduceSub, Int.reduceNeg, Int.reduceToNat, hroot, e1, m4, g1]
  refine appO_new O 3 (s := 1) (bts := 8) (m := fr0.length) (ys := (ints (fr0 ++ [(i : Int) + 1])).take (fr0.length * 1)) rfl rfl se43 kd43 zr3 rfl (by omega) ?_ (by simp [ints]) (by simp [ints, Value.oneCell']) (by omega) fun A' C' σ' hC' hp' hO hfr hn' => ?_
  · refine own_take (n := fr0.length + 1) (ty := 3) ?_ (by omega)
    have o4' : Own τ 3 1 (ints (fr0 ++ [(i : Int) + 1])) (fr0.length + 1) (.slice (some ⟨b4, 0, none⟩) (fr0.length + 1) c4) := by simpa using o4
    exact o4'.keepR fun b o hb ho => by have := (O.wf.2 _ _ ho).2; simp -implicitDefEqProofs (disch := first | omega | (simp only [St.set_n, St.up_n, List.length_cons, List.length_nil]; omega)) only [go_sem, Nat.reduceAdd, Nat.reduceMul, Nat.reduceSub, Int.reduceAdd, Int.reduceMul, Int.reduceSub, Int.reduceNeg, Int.reduceToNat, ho]
  have O1 := hO (refRoot lim)
  simp only [List.set_cons_zero, List.set_cons_succ, refRoot_four, spRef] at O1 hp'
  have e5 : (ints (fr0 ++ [(i : Int) + 1])).take (fr0.length * 1) = ints fr0 := by simp [ints]
  rw [e5] at O1
  simp -implicitDefEqProofs (disch := first | omega | (simp only [St.set_n, St.up_n, List.length_cons, List.length_nil]; omega)) only [go_sem, Nat.reduceAdd, Nat.reduceMul, Nat.reduceSub, Int.reduceAdd, Int.reduceMul, Int.reduceSub, Int.reduceNeg, Int.reduceToNat, hp']
  generalize σ'.set p (.raw (.cells #[.slice (some ⟨b1, 0, none⟩) L.length c1, .slice (some ⟨b2, 0, none⟩) L.length c2, .slice (some ⟨b3, 0, none⟩) L.length c3, .slice A' fr0.length C', .int .i64 lim] 81 (0, 0))) = τ1 at O1 ⊢
  obtain ⟨w1, w2, w3, w4, e0, o1', o2', o3', o4'⟩ := O1.own.four
  simp only [List.cons.injEq, and_true] at e0
  obtain ⟨rfl, rfl, rfl, rfl⟩ := e0
  obtain ⟨_, _, sq1, q1, _, n1, j1, _⟩ := o1'.has (by simp only; omega)
  obtain ⟨_, _, sq2, q2, _, n2, j2, _⟩ := o2'.has (by simp only; omega)
  obtain ⟨_, _, sq3, q3, _, n3, j3, _⟩ := o3'.has (by simp only; omega)
  cases q1
  cases q2
  cases q3
  simp only at n1 n2 n3 j1 j2 j3
  have hap := O1.apart
  simp only [go_sem] at hap
  obtain ⟨a1, ⟨a2, a3, a4⟩, a5, ⟨a6, a7⟩, a8, a9, a10⟩ := hap
  have hroot1 := O1.root
  simp only [refRoot_four] at hroot1
  have e9 : (i : Int) + 1 - 1 = i := by omega
  have s1 := ints_set (l := L.map (·.1)) (i := i) sq1 (by simpa using hil) x
  have s3 := bools_set (l := L.map (·.2.2)) (i := i) sq3 (by simpa using hil) true
  have g2 : (ints (L.map (·.2.1)) ++ sq2)[i]? = some (.int .i64 s) := ints_get (map_get (·.2.1) hi) sq2
  simp -implicitDefEqProofs (disch := first | omega | (simp only [St.set_n, St.up_n, List.length_cons, List.length_nil]; omega)) only [go_sem, Nat.reduceAdd, Nat.reduceMul, Nat.reduceSub, Int.reduceAdd, Int.reduceMul, Int.reduceSub, Int.reduceNeg, Int.reduceToNat, hroot1, e9, n1, n2, n3, j1, j3, s1, s3, g2]
  have O2 := O1.wr (i := 0) (x := ⟨3, 1, ints (L.map (·.1)), L.length⟩) (cs' := ints ((L.map (·.1)).set i x)) rfl rfl n1 (by simp [ints])
  have O3 := O2.wr (i := 2) (x := ⟨4, 1, bools (L.map (·.2.2)), L.length⟩) (cs' := bools ((L.map (·.2.2)).set i true)) rfl rfl (spare := sq3) (by simp -implicitDefEqProofs (disch := first | omega | (simp only [St.set_n, St.up_n, List.length_cons, List.length_nil]; omega)) only [go_sem, Nat.reduceAdd, Nat.reduceMul, Nat.reduceSub, Int.reduceAdd, Int.reduceMul, Int.reduceSub, Int.reduceNeg, Int.reduceToNat, n3]) (by simp [bools])
  simp only [List.set_cons_zero, List.set_cons_succ] at O3
  refine (O3.cast ?_).close hK
  simp [spRef, List.map_set, map_same (·.2.1) hi (y := (x, s, true)) rfl]
theorem refp_take_new {S : PS Int} {p : Nat} {x : Int} (hm : σ.m p = some (.comp (RefR S p))) (hfr : S.fr = []) (hl : (S.l.length : Int) < S.lim) (hb : S.l.length ≤ 100000)
    (hK : ∀ k, σ.n ≤ k → K (.tuple #[.int .i64 (S.l.length + 1), .int .i64 0, .int .i64 0]) ((σ.set p (.comp (RefR { S with l := S.l ++ [(x, 0, true)] } p))).up k)) :
    Fn Try.prog B 45 #[.pointer (some ⟨p, 0, none⟩), .int .i64 x] σ K := by
  obtain ⟨L, fr, lim⟩ := S
  simp only at hfr hl hb hK
  subst hfr
  refine Fn.opn hm is45 (by simp) fun vs τ hn O => ?_
  obtain ⟨v1, v2, v3, v4, rfl, o1, o2, o3, o4⟩ := O.own.four
  simp only at o1 o2 o3 o4
  obtain ⟨A1, c1, rfl, hc1⟩ := o1.is
  obtain ⟨A2, c2, rfl, hc2⟩ := o2.is
  obtain ⟨A3, c3, rfl, hc3⟩ := o3.is
  obtain ⟨A4, c4, rfl, hc4⟩ := o4.is
  simp only [List.length_nil] at O
  have hroot := O.root
  simp only [refRoot_four] at hroot
  have hpn := (O.wf.2 _ _ O.root).2
  have hl' : ¬ (lim ≤ (L.length : Int)) := by omega
  simp only [b45, Try.f45, Option.getD_some]
  simp -implicitDefEqProofs (disch := first | omega | (simp only [St.set_n, St.up_n, List.length_cons, List.length_nil]; omega)) only [go_sem, Nat.reduceAdd, Nat.reduceMul, Nat.reduceSub, Int.reduceAdd, Int.reduceMul, Int.reduceSub, Int.reduceNeg, Int.reduceToNat, hroot, hl']
  refine appO_one (O.new (.raw (.cells #[.int .i64 0] 3 (0, 0))) (k := τ.n + 1) (by omega)) 0 (s := 1) (bts := 8) (ty' := 3) (fz := (0, 0)) (ys := [.int .i64 0]) rfl rfl se43 kd43 zr3 rfl (by omega) (by simp -implicitDefEqProofs (disch := first | omega | (simp only [St.set_n, St.up_n, List.length_cons, List.length_nil]; omega)) only [go_sem, Nat.reduceAdd, Nat.reduceMul, Nat.reduceSub, Int.reduceAdd, Int.reduceMul, Int.reduceSub, Int.reduceNeg, Int.reduceToNat]) rfl rfl (by first | omega | (simp only; omega)) fun A' C' σ' hC' hp' hO hfr hn' => ?_
  have O1 := hO (refRoot lim)
  simp only [List.set_cons_zero, List.set_cons_succ, refRoot_four, spRef] at O1 hp'
  simp -implicitDefEqProofs (disch := first | omega | (simp only [St.set_n, St.up_n, List.length_cons, List.length_nil]; omega)) only [go_sem, Nat.reduceAdd, Nat.reduceMul, Nat.reduceSub, Int.reduceAdd, Int.reduceMul, Int.reduceSub, Int.reduceNeg, Int.reduceToNat, hp']
  have hroot1 := O1.root
  simp only [refRoot_four] at hroot1
  have hpn1 : p < σ'.n := (O1.wf.2 _ _ O1.root).2
  try simp -implicitDefEqProofs (disch := first | omega | (simp only [St.set_n, St.up_n, List.length_cons, List.length_nil]; omega)) only [go_sem, Nat.reduceAdd, Nat.reduceMul, Nat.reduceSub, Int.reduceAdd, Int.reduceMul, Int.reduceSub, Int.reduceNeg, Int.reduceToNat, hroot1]
  refine appO_one (O1.new (.raw (.cells #[.int .i64 0] 3 (0, 0))) (k := σ'.n + 1) (Nat.lt_succ_self _)) 1 (b := σ'.n) (s := 1) (bts := 8) (ty' := 3) (fz := (0, 0)) (ys := [.int .i64 0]) rfl rfl se43 kd43 zr3 rfl (by omega) (by simp -implicitDefEqProofs (disch := first | omega | (simp only [St.set_n, St.up_n, List.length_cons, List.length_nil]; omega)) only [go_sem, Nat.reduceAdd, Nat.reduceMul, Nat.reduceSub, Int.reduceAdd, Int.reduceMul, Int.reduceSub, Int.reduceNeg, Int.reduceToNat]) rfl rfl (by first | omega | (simp only; omega)) fun A'' C'' σ'' hC'' hp'' hO' hfr' hn'' => ?_
  have O2 := hO' (refRoot lim)
  simp only [List.set_cons_zero, List.set_cons_succ, refRoot_four] at O2 hp''
  simp -implicitDefEqProofs (disch := first | omega | (simp only [St.set_n, St.up_n, List.length_cons, List.length_nil]; omega)) only [go_sem, Nat.reduceAdd, Nat.reduceMul, Nat.reduceSub, Int.reduceAdd, Int.reduceMul, Int.reduceSub, Int.reduceNeg, Int.reduceToNat, hp'']
  have hroot2 := O2.root
  simp only [refRoot_four] at hroot2
  have hpn2 : p < σ''.n := (O2.wf.2 _ _ O2.root).2
  try simp -implicitDefEqProofs (disch := first | omega | (simp only [St.set_n, St.up_n, List.length_cons, List.length_nil]; omega)) only [go_sem, Nat.reduceAdd, Nat.reduceMul, Nat.reduceSub, Int.reduceAdd, Int.reduceMul, Int.reduceSub, Int.reduceNeg, Int.reduceToNat, hroot2]
  refine appO_one (O2.new (.raw (.cells #[.bool false] 4 (0, 0))) (k := σ''.n + 1) (Nat.lt_succ_self _)) 2 (b := σ''.n) (s := 1) (bts := 1) (ty' := 4) (fz := (0, 0)) (ys := [.bool false]) rfl rfl se56 kd56 zr4 rfl (by omega) (by simp -implicitDefEqProofs (disch := first | omega | (simp only [St.set_n, St.up_n, List.length_cons, List.length_nil]; omega)) only [go_sem, Nat.reduceAdd, Nat.reduceMul, Nat.reduceSub, Int.reduceAdd, Int.reduceMul, Int.reduceSub, Int.reduceNeg, Int.reduceToNat]) rfl rfl (by first | omega | (simp only; omega)) fun A3' C3' σ3 hC3 hp3 hO3 hfr3 hn3 => ?_
  have O3 := hO3 (refRoot lim)
  simp only [List.set_cons_zero, List.set_cons_succ, refRoot_four] at O3 hp3
  simp -implicitDefEqProofs (disch := first | omega | (simp only [St.set_n, St.up_n, List.length_cons, List.length_nil]; omega)) only [go_sem, Nat.reduceAdd, Nat.reduceMul, Nat.reduceSub, Int.reduceAdd, Int.reduceMul, Int.reduceSub, Int.reduceNeg, Int.reduceToNat, hp3]
  generalize σ3.set p (.raw (.cells #[.slice A' (L.length + 1) C', .slice A'' (L.length + 1) C'', .slice A3' (L.length + 1) C3', .slice A4 0 c4, .int .i64 lim] 81 (0, 0))) = τ3 at O3 ⊢
  have hroot3 := O3.root
  simp only [refRoot_four] at hroot3
  obtain ⟨w1, w2, w3, w4, e0, o1', o2', o3', o4'⟩ := O3.own.four
  simp only [List.cons.injEq, and_true] at e0
  obtain ⟨rfl, rfl, rfl, rfl⟩ := e0
  obtain ⟨b1, _, sq1, q1, hq1, n1, j1, _⟩ := o1'.has (by simp only; omega)
  obtain ⟨b2, _, sq2, q2, hq2, n2, j2, _⟩ := o2'.has (by simp only; omega)
  obtain ⟨b3, _, sq3, q3, hq3, n3, j3, _⟩ := o3'.has (by simp only; omega)
  cases q1
  cases q2
  cases q3
  have f1 : ints (L.map (fun z : Pl Int => z.1)) ++ [.int .i64 0] = ints (L.map (fun z : Pl Int => z.1) ++ [0]) := by simp [ints]
  have f2 : ints (L.map (fun z : Pl Int => z.2.1)) ++ [.int .i64 0] = ints (L.map (fun z : Pl Int => z.2.1) ++ [0]) := by simp [ints]
  have f3 : bools (L.map (fun z : Pl Int => z.2.2)) ++ [.bool false] = bools (L.map (fun z : Pl Int => z.2.2) ++ [false]) := by simp [bools]
  simp only [f1, f2, f3] at n1 n2 n3 j1 j2 j3
  simp only [f1, f2, f3] at O3
  have hap := O3.apart
  simp only [go_sem] at hap
  obtain ⟨a1, ⟨a2, a3, a4⟩, a5, ⟨a6, a7⟩, a8, a9, a10⟩ := hap
  have e9 : ((L.length + 1 : Nat) : Int) - 1 = L.length := by omega
  have e8 : ((L.length + 1 : Nat) : Int) = (L.length : Int) + 1 := by omega
  have s1 := ints_set (l := L.map (fun z : Pl Int => z.1) ++ [0]) (i := L.length) sq1 (by simp) x
  have s3 := bools_set (l := L.map (fun z : Pl Int => z.2.2) ++ [false]) (i := L.length) sq3 (by simp) true
  have g2 : (ints (L.map (fun z : Pl Int => z.2.1) ++ [0]) ++ sq2)[L.length]? = some (.int .i64 0) := ints_get (by simp) sq2
  have h1 : L.length + 1 ≤ C' := hC'
  have h3 : L.length + 1 ≤ C3' := hC3
  simp -implicitDefEqProofs (disch := first | omega | (simp only [St.set_n, St.up_n, List.length_cons, List.length_nil]; omega)) only [go_sem, Nat.reduceAdd, Nat.reduceMul, Nat.reduceSub, Int.reduceAdd, Int.reduceMul, Int.reduceSub, Int.reduceNeg, Int.reduceToNat, hroot3, e9, n1, n2, n3, j1, j3, s1, s3, g2]
  have O4 := O3.wr (i := 0) (x := ⟨3, 1, ints (L.map (fun z : Pl Int => z.1) ++ [0]), L.length + 1⟩) (cs' := ints ((L.map (fun z : Pl Int => z.1) ++ [0]).set L.length x)) rfl rfl n1 (by simp [ints])
  have O5 := O4.wr (i := 2) (x := ⟨4, 1, bools (L.map (fun z : Pl Int => z.2.2) ++ [false]), L.length + 1⟩) (cs' := bools ((L.map (fun z : Pl Int => z.2.2) ++ [false]).set L.length true)) rfl rfl (spare := sq3) (by simp -implicitDefEqProofs (disch := first | omega | (simp only [St.set_n, St.up_n, List.length_cons, List.length_nil]; omega)) only [go_sem, Nat.reduceAdd, Nat.reduceMul, Nat.reduceSub, Int.reduceAdd, Int.reduceMul, Int.reduceSub, Int.reduceNeg, Int.reduceToNat, n3]) (by simp [bools])
  simp only [List.set_cons_zero, List.set_cons_succ] at O5
  refine (O5.cast ?_).close hK
  have t1 : (L.map (fun z : Pl Int => z.1) ++ [0]).set L.length x = L.map (fun z : Pl Int => z.1) ++ [x] := by
    have : L.length = (L.map (fun z : Pl Int => z.1)).length := by simp
    rw [this]; simp
  have t3 : (L.map (fun z : Pl Int => z.2.2) ++ [false]).set L.length true = L.map (fun z : Pl Int => z.2.2) ++ [true] := by
    have : L.length = (L.map (fun z : Pl Int => z.2.2)).length := by simp
    rw [this]; simp
  rw [t1, t3]
  simp [spRef]
theorem refp_give {S : PS Int} {p i : Nat} {y : Int} {s : Int} (hm : σ.m p = some (.comp (RefR S p))) (hi : S.l[i]? = some (y, s, true)) (hb : S.l.length ≤ 100000) (hb2 : S.fr.length ≤ 100000)
    (hK : ∀ k, σ.n ≤ k → K (.int .i64 0) ((σ.set p (.comp (RefR { S with l := S.l.set i (y, IntKind.i64.wrap (s + 1), false), fr := S.fr ++ [(i : Int) + 1] } p))).up k)) :
    Fn Try.prog B 47 #[.pointer (some ⟨p, 0, none⟩), .int .i64 (i + 1)] σ K := by
  obtain ⟨L, fr, lim⟩ := S
  simp only at hi hb hb2 hK
  refine Fn.opn hm is47 (by simp) fun vs τ hn O => ?_
  obtain ⟨v1, v2, v3, v4, rfl, o1, o2, o3, o4⟩ := O.own.four
  simp only at o1 o2 o3 o4
  have hil := (List.getElem?_eq_some_iff.1 hi).1
  obtain ⟨A1, c1, rfl, hc1⟩ := o1.is
  obtain ⟨b2, c2, sq2, rfl, hc2, n2, j2, k2⟩ := o2.has (by omega)
  obtain ⟨b3, c3, sq3, rfl, hc3, n3, j3, k3⟩ := o3.has (by omega)
  obtain ⟨A4, c4, rfl, hc4⟩ := o4.is
  have hroot := O.root
  simp only [refRoot_four] at hroot
  have hpn := (O.wf.2 _ _ O.root).2
  have hap := O.apart
  simp only [go_sem] at hap
  obtain ⟨a1, ⟨a2, a3, a4⟩, a5, ⟨a6, a7⟩, a8, a9, a10⟩ := hap
  have hin : (1 : Int) ≤ (i : Int) + 1 ∧ (i : Int) + 1 ≤ L.length := by omega
  have e9 : (i : Int) + 1 - 1 = i := by omega
  have s3 := bools_set (l := L.map (·.2.2)) (i := i) sq3 (by simpa using hil) false
  have s2 := ints_set (l := L.map (·.2.1)) (i := i) sq2 (by simpa using hil) (IntKind.i64.wrap (s + 1))
  have g3 : (bools (L.map (·.2.2)) ++ sq3)[i]? = some (.bool true) := bools_get (map_get (·.2.2) hi) sq3
  have g2 : (ints (L.map (·.2.1)) ++ sq2)[i]? = some (.int .i64 s) := ints_get (map_get (·.2.1) hi) sq2
  simp only [b47, Try.f47, Option.getD_some]
  simp -implicitDefEqProofs (disch := first | omega | (simp only [St.set_n, St.up_n, List.length_cons, List.length_nil]; omega)) only [go_sem, Nat.reduceAdd, Nat.reduceMul, Nat.reduceSub, Int.reduceAdd, Int.reduceMul, Int.reduceSub, Int.reduceNeg, Int.reduceToNat]
  refine callF_of (refp_there_o hroot ?_)
  simp -implicitDefEqProofs (disch := first | omega | (simp only [St.set_n, St.up_n, List.length_cons, List.length_nil]; omega)) only [go_sem, Nat.reduceAdd, Nat.reduceMul, Nat.reduceSub, Int.reduceAdd, Int.reduceMul, Int.reduceSub, Int.reduceNeg, Int.reduceToNat, hroot, hin, e9, n2, n3, j2, j3, g3, g2, s2, s3]
  have O1 := O.wr (i := 2) (x := ⟨4, 1, bools (L.map (·.2.2)), L.length⟩) (cs' := bools ((L.map (·.2.2)).set i false)) rfl rfl n3 (by simp [bools])
  have O2 := O1.wr (i := 1) (x := ⟨3, 1, ints (L.map (·.2.1)), L.length⟩) (cs' := ints ((L.map (·.2.1)).set i (IntKind.i64.wrap (s + 1)))) rfl rfl (spare := sq2) (by simp -implicitDefEqProofs (disch := first | omega | (simp only [St.set_n, St.up_n, List.length_cons, List.length_nil]; omega)) only [go_sem, Nat.reduceAdd, Nat.reduceMul, Nat.reduceSub, Int.reduceAdd, Int.reduceMul, Int.reduceSub, Int.reduceNeg, Int.reduceToNat, n2]) (by simp [ints])
  simp only [List.set_cons_zero, List.set_cons_succ, spRef] at O2
  refine appO_one (O2.new (.raw (.cells #[.int .i64 (i + 1)] 3 (0, 0))) (k := τ.n + 1) (by simp -implicitDefEqProofs (disch := first | omega | (simp only [St.set_n, St.up_n, List.length_cons, List.length_nil]; omega)) only [go_sem, Nat.reduceAdd, Nat.reduceMul, Nat.reduceSub, Int.reduceAdd, Int.reduceMul, Int.reduceSub, Int.reduceNeg, Int.reduceToNat]; omega)) 3 (s := 1) (bts := 8) (ty' := 3) (fz := (0, 0)) (ys := [.int .i64 (i + 1)]) rfl rfl se43 kd43 zr3 rfl (by omega) (by simp -implicitDefEqProofs (disch := first | omega | (simp only [St.set_n, St.up_n, List.length_cons, List.length_nil]; omega)) only [go_sem, Nat.reduceAdd, Nat.reduceMul, Nat.reduceSub, Int.reduceAdd, Int.reduceMul, Int.reduceSub, Int.reduceNeg, Int.reduceToNat]) rfl rfl (by first | omega | (simp only; omega)) fun A' C' σ' hC' hp' hO hfr hn' => ?_
  have O3 := hO (refRoot lim)
  simp only [List.set_cons_zero, List.set_cons_succ, refRoot_four] at O3 hp'
  simp -implicitDefEqProofs (disch := first | omega | (simp only [St.set_n, St.up_n, List.length_cons, List.length_nil]; omega)) only [go_sem, Nat.reduceAdd, Nat.reduceMul, Nat.reduceSub, Int.reduceAdd, Int.reduceMul, Int.reduceSub, Int.reduceNeg, Int.reduceToNat, hp']
  refine (O3.cast ?_).close hK
  have t1 := map_same (·.1) hi (y := (y, IntKind.i64.wrap (s + 1), false)) rfl
  simp only [List.map_set] at t1
  simp [spRef, ints, List.map_set, t1]
theorem refp_give_bad {S : PS Int} {p : Nat} {id : Int} (hm : σ.m p = some (.comp (RefR S p))) (hi : ∀ i : Nat, id = (i : Int) + 1 → ∀ x, S.l[i]? = some x → x.2.2 = false) (hb : S.l.length ≤ 100000)
    (hK : ∀ k, σ.n ≤ k → K (.int .i64 4) (σ.up k)) :
    Fn Try.prog B 47 #[.pointer (some ⟨p, 0, none⟩), .int .i64 id] σ K := by
  refine Fn.opn hm is47 (by simp) fun vs τ hn O => ?_
  obtain ⟨v1, v2, v3, v4, rfl, o1, o2, o3, o4⟩ := O.own.four
  simp only at o1 o2 o3 o4
  obtain ⟨A1, c1, rfl, hc1⟩ := o1.is
  have hroot := O.root
  simp only [refRoot_four] at hroot
  simp only [b47, Try.f47, Option.getD_some]
  simp -implicitDefEqProofs (disch := first | omega | (simp only [St.set_n, St.up_n, List.length_cons, List.length_nil]; omega)) only [go_sem, Nat.reduceAdd, Nat.reduceMul, Nat.reduceSub, Int.reduceAdd, Int.reduceMul, Int.reduceSub, Int.reduceNeg, Int.reduceToNat]
  refine callF_of (refp_there_o hroot ?_)
  by_cases hin : 1 ≤ id ∧ id ≤ S.l.length
  · obtain ⟨i, rfl⟩ : ∃ i : Nat, id = (i : Int) + 1 := ⟨(id - 1).toNat, by omega⟩
    have hil : i < S.l.length := by omega
    have e9 : (i : Int) + 1 - 1 = i := by omega
    obtain ⟨b3, c3, sq3, rfl, hc3, n3, j3, k3⟩ := o3.has (by omega)
    have hf := hi i rfl _ (List.getElem?_eq_getElem hil)
    have g3 : (bools (S.l.map (·.2.2)) ++ sq3)[i]? = some (.bool false) := by rw [← hf]; exact bools_get (map_get (·.2.2) (List.getElem?_eq_getElem hil)) sq3
    simp -implicitDefEqProofs (disch := first | omega | (simp only [St.set_n, St.up_n, List.length_cons, List.length_nil]; omega)) only [go_sem, Nat.reduceAdd, Nat.reduceMul, Nat.reduceSub, Int.reduceAdd, Int.reduceMul, Int.reduceSub, Int.reduceNeg, Int.reduceToNat, hroot, hin, e9, n3, g3]
    exact O.close' hm hK
  · simp -implicitDefEqProofs (disch := first | omega | (simp only [St.set_n, St.up_n, List.length_cons, List.length_nil]; omega)) only [go_sem, Nat.reduceAdd, Nat.reduceMul, Nat.reduceSub, Int.reduceAdd, Int.reduceMul, Int.reduceSub, Int.reduceNeg, Int.reduceToNat, hroot, hin]
    exact O.close' hm hK
theorem refp_get {S : PS Int} {p : Nat} {id st : Int} (hm : σ.m p = some (.comp (RefR S p))) (hb : S.l.length ≤ 100000)
    (hK : ∀ k, σ.n ≤ k → K (.tuple #[.int .i64 (getEI S id st).1, .int .i64 (getEI S id st).2]) (σ.up k)) :
    Fn Try.prog B 49 #[.pointer (some ⟨p, 0, none⟩), .int .i64 id, .int .i64 st] σ K := by
  refine Fn.opn hm is49 (by simp) fun vs τ hn O => ?_
  obtain ⟨v1, v2, v3, v4, rfl, o1, o2, o3, o4⟩ := O.own.four
  simp only at o1 o2 o3 o4
  obtain ⟨A1, c1, rfl, hc1⟩ := o1.is
  have hroot := O.root
  simp only [refRoot_four] at hroot
  simp only [b49, Try.f49, Option.getD_some]
  simp -implicitDefEqProofs (disch := first | omega | (simp only [St.set_n, St.up_n, List.length_cons, List.length_nil]; omega)) only [go_sem, Nat.reduceAdd, Nat.reduceMul, Nat.reduceSub, Int.reduceAdd, Int.reduceMul, Int.reduceSub, Int.reduceNeg, Int.reduceToNat]
  refine callF_of (refp_there_o hroot ?_)
  unfold getEI at hK
  by_cases hin : 1 ≤ id ∧ id ≤ S.l.length
  · rw [if_pos hin] at hK
    obtain ⟨i, rfl⟩ : ∃ i : Nat, id = (i : Int) + 1 := ⟨(id - 1).toNat, by omega⟩
    have hil : i < S.l.length := by omega
    have e8 : ((i : Int) + 1 - 1).toNat = i := by omega
    have e9 : (i : Int) + 1 - 1 = i := by omega
    obtain ⟨b1, c1', sq1, e1, hq1, n1, j1, k1⟩ := o1.has (by omega)
    cases e1
    obtain ⟨b2, c2, sq2, rfl, hc2, n2, j2, k2⟩ := o2.has (by omega)
    obtain ⟨b3, c3, sq3, rfl, hc3, n3, j3, k3⟩ := o3.has (by omega)
    obtain ⟨⟨x, s, t⟩, hx⟩ : ∃ x, S.l[i]? = some x := ⟨_, List.getElem?_eq_getElem hil⟩
    rw [e8, hx] at hK
    have g1 : (ints (S.l.map (·.1)) ++ sq1)[i]? = some (.int .i64 x) := ints_get (map_get (·.1) hx) sq1
    have g2 : (ints (S.l.map (·.2.1)) ++ sq2)[i]? = some (.int .i64 s) := ints_get (map_get (·.2.1) hx) sq2
    have g3 : (bools (S.l.map (·.2.2)) ++ sq3)[i]? = some (.bool t) := bools_get (map_get (·.2.2) hx) sq3
    cases t with
    | false =>
      simp -implicitDefEqProofs (disch := first | omega | (simp only [St.set_n, St.up_n, List.length_cons, List.length_nil]; omega)) only [go_sem, Nat.reduceAdd, Nat.reduceMul, Nat.reduceSub, Int.reduceAdd, Int.reduceMul, Int.reduceSub, Int.reduceNeg, Int.reduceToNat, hroot, hin, e9, n3, g3]
      exact O.close' hm (by simpa using hK)
    | true =>
      by_cases hs : s = st
      · simp -implicitDefEqProofs (disch := first | omega | (simp only [St.set_n, St.up_n, List.length_cons, List.length_nil]; omega)) only [go_sem, Nat.reduceAdd, Nat.reduceMul, Nat.reduceSub, Int.reduceAdd, Int.reduceMul, Int.reduceSub, Int.reduceNeg, Int.reduceToNat, hroot, hin, e9, n1, n2, n3, g1, g2, g3, hs]
        exact O.close' hm (by simpa [hs] using hK)
      · simp -implicitDefEqProofs (disch := first | omega | (simp only [St.set_n, St.up_n, List.length_cons, List.length_nil]; omega)) only [go_sem, Nat.reduceAdd, Nat.reduceMul, Nat.reduceSub, Int.reduceAdd, Int.reduceMul, Int.reduceSub, Int.reduceNeg, Int.reduceToNat, hroot, hin, e9, n2, n3, g2, g3, hs]
        exact O.close' hm (by simpa [hs] using hK)
  · rw [if_neg hin] at hK
    simp -implicitDefEqProofs (disch := first | omega | (simp only [St.set_n, St.up_n, List.length_cons, List.length_nil]; omega)) only [go_sem, Nat.reduceAdd, Nat.reduceMul, Nat.reduceSub, Int.reduceAdd, Int.reduceMul, Int.reduceSub, Int.reduceNeg, Int.reduceToNat, hroot, hin]
    exact O.close' hm hK
end
end Go.Proofs.Ytbjgoajdfdonfaa
