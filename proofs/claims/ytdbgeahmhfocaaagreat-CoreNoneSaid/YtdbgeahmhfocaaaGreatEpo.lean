/- Epochs, a pool, cells: contracts, by walks. -/
import Derived.Test.YtdbgeahmhfocaaaGreatThr2
namespace Go.Proofs.YtdbgeahmhfocaaaGreat
set_option linter.unusedSimpArgs false
set_option linter.unusedVariables false
set_option maxRecDepth 100000
open Go Go.RowKit
section
variable {B : World} {σ : St} {K : Value → St → Prop}
/-! ### The epochs -/
structure ES where
  now : Nat
  pin : List Int
  l0 : List Int
  l1 : List Int
  l2 : List Int
def epRoot (now : Nat) : List Value → List Value
  | [p, a, b, c] => [.int .i64 now, p, a, b, c]
  | _ => []
@[go_sem] theorem epRoot_four {now : Nat} {p a b c : Value} : epRoot now [p, a, b, c] = [.int .i64 now, p, a, b, c] := rfl
def spEp (S : ES) : List Sp := [⟨3, 1, ints S.pin, S.pin.length⟩, ⟨3, 1, ints S.l0, S.l0.length⟩, ⟨3, 1, ints S.l1, S.l1.length⟩, ⟨3, 1, ints S.l2, S.l2.length⟩]
abbrev EpR (S : ES) (p : Nat) : Heaplet → Prop := Obj 132 (epRoot S.now) (spEp S) p

theorem ep_there {p n : Nat} {A : Option Addr} {c : Nat} {now : Int} {a b d : Value} {t : Int} (hr : σ.m p = some (.raw (.cells #[.int .i64 now, .slice A n c, a, b, d] 132 (0, 0)))) (hK : K (.bool (decide (0 ≤ t ∧ t < n))) σ) :
    Fn Tryz.prog B 72 #[.pointer (some ⟨p, 0, none⟩), .int .i64 t] σ K := by
  refine Fn.of is72 (by simp) fun hwf => ?_
  simp only [b72, Tryz.f72, Option.getD_some]
  by_cases h : 0 ≤ t
  · simp -implicitDefEqProofs (disch := first | omega | (simp only [St.set_n, St.up_n, List.length_cons, List.length_nil]; omega)) only [go_sem, Nat.reduceAdd, Nat.reduceMul, Nat.reduceSub, Int.reduceAdd, Int.reduceMul, Int.reduceSub, Int.reduceNeg, Int.reduceToNat, hr, h]
    simpa [h] using hK
  · simp -implicitDefEqProofs (disch := first | omega | (simp only [St.set_n, St.up_n, List.length_cons, List.length_nil]; omega)) only [go_sem, Nat.reduceAdd, Nat.reduceMul, Nat.reduceSub, Int.reduceAdd, Int.reduceMul, Int.reduceSub, Int.reduceNeg, Int.reduceToNat, hr, h]
    simpa [h] using hK
theorem ep_there_nil {t : Int} (hK : K (.bool false) σ) : Fn Tryz.prog B 72 #[.pointer none, .int .i64 t] σ K := by
  refine Fn.of is72 (by simp) fun hwf => ?_
  simp only [b72, Tryz.f72, Option.getD_some]
  simp -implicitDefEqProofs (disch := first | omega | (simp only [St.set_n, St.up_n, List.length_cons, List.length_nil]; omega)) only [go_sem, Nat.reduceAdd, Nat.reduceMul, Nat.reduceSub, Int.reduceAdd, Int.reduceMul, Int.reduceSub, Int.reduceNeg, Int.reduceToNat]
  exact hK
/-- Is a thread pinned? -/
def isPin (pin : List Int) (t : Int) : Bool := decide (0 ≤ t ∧ t < pin.length) && decide (0 ≤ pin.getD t.toNat (-1))
theorem ep_pinned_o {p : Nat} {pin : List Int} {v : Value} {now : Int} {a b d : Value} {t : Int} (hr : σ.m p = some (.raw (.cells #[.int .i64 now, v, a, b, d] 132 (0, 0)))) (ho : Own σ 3 1 (ints pin) pin.length v) (hK : K (.bool (isPin pin t)) σ) :
    Fn Tryz.prog B 49 #[.pointer (some ⟨p, 0, none⟩), .int .i64 t] σ K := by
  obtain ⟨A, c, rfl, hc⟩ := ho.is
  refine Fn.of is49 (by simp) fun hwf => ?_
  simp only [b49, Tryz.f49, Option.getD_some]
  simp -implicitDefEqProofs (disch := first | omega | (simp only [St.set_n, St.up_n, List.length_cons, List.length_nil]; omega)) only [go_sem, Nat.reduceAdd, Nat.reduceMul, Nat.reduceSub, Int.reduceAdd, Int.reduceMul, Int.reduceSub, Int.reduceNeg, Int.reduceToNat]
  refine callF_of (ep_there hr ?_)
  by_cases hin : 0 ≤ t ∧ t < pin.length
  · obtain ⟨i, rfl⟩ : ∃ i : Nat, t = (i : Int) := ⟨t.toNat, by omega⟩
    obtain ⟨x, hx⟩ : ∃ x, pin[i]? = some x := ⟨pin[i]'(by omega), List.getElem?_eq_getElem (by omega)⟩
    obtain ⟨b1, c1, sp1, e1, _, m1, _, _⟩ := ho.has (by omega)
    cases e1
    have g1 : (ints pin ++ sp1)[i]? = some (.int .i64 x) := ints_get hx sp1
    simp -implicitDefEqProofs (disch := first | omega | (simp only [St.set_n, St.up_n, List.length_cons, List.length_nil]; omega)) only [go_sem, Nat.reduceAdd, Nat.reduceMul, Nat.reduceSub, Int.reduceAdd, Int.reduceMul, Int.reduceSub, Int.reduceNeg, Int.reduceToNat, hr, hin, m1, g1]
    simpa [isPin, hin, List.getD, hx] using hK
  · simp -implicitDefEqProofs (disch := first | omega | (simp only [St.set_n, St.up_n, List.length_cons, List.length_nil]; omega)) only [go_sem, Nat.reduceAdd, Nat.reduceMul, Nat.reduceSub, Int.reduceAdd, Int.reduceMul, Int.reduceSub, Int.reduceNeg, Int.reduceToNat, hr, hin]
    simpa [isPin, hin] using hK
theorem ep_pinned {S : ES} {p : Nat} {t : Int} (hm : σ.m p = some (.comp (EpR S p))) (hK : ∀ k, σ.n ≤ k → K (.bool (isPin S.pin t)) (σ.up k)) : Fn Tryz.prog B 49 #[.pointer (some ⟨p, 0, none⟩), .int .i64 t] σ K := by
  refine Fn.toK (Fn.openO hm is49.en fun vs τ hwf hn hr ho ha hk => ?_)
  obtain ⟨v1, v2, v3, v4, rfl, o1, o2, o3, o4⟩ := ho.four
  simp only [epRoot_four] at hr
  exact ep_pinned_o hr o1 ((⟨hwf, hr, ho, ha, hk, by omega⟩ : Opn B σ τ p 132 (epRoot S.now) (spEp S) [v1, v2, v3, v4]).close' hm hK)
theorem ep_pinned_nil {t : Int} (hK : K (.bool false) σ) : Fn Tryz.prog B 49 #[.pointer none, .int .i64 t] σ K := by
  refine Fn.of is49 (by simp) fun hwf => ?_
  simp only [b49, Tryz.f49, Option.getD_some]
  simp -implicitDefEqProofs (disch := first | omega | (simp only [St.set_n, St.up_n, List.length_cons, List.length_nil]; omega)) only [go_sem, Nat.reduceAdd, Nat.reduceMul, Nat.reduceSub, Int.reduceAdd, Int.reduceMul, Int.reduceSub, Int.reduceNeg, Int.reduceToNat]
  refine callF_of (ep_there_nil ?_)
  simp -implicitDefEqProofs (disch := first | omega | (simp only [St.set_n, St.up_n, List.length_cons, List.length_nil]; omega)) only [go_sem, Nat.reduceAdd, Nat.reduceMul, Nat.reduceSub, Int.reduceAdd, Int.reduceMul, Int.reduceSub, Int.reduceNeg, Int.reduceToNat]
  exact hK
structure Nw (p n i : Nat) (e : Fr) : Prop where
  v3 : e.v 3 = .pointer (some ⟨p, 0, none⟩)
  v8 : e.v 8 = .int .i64 n
  v9 : e.v 9 = .int .i64 i
  d : e.d = []
theorem ep_new {th : Int} {n : Nat} (hn : max (min th 64) 0 = (n : Int)) (hK : ∀ k, σ.n < k → K (.pointer (some ⟨σ.n, 0, none⟩)) ((σ.set σ.n (.comp (EpR { now := 0, pin := List.replicate n (-1), l0 := [], l1 := [], l2 := [] } σ.n))).up k)) : Fn Tryz.prog B 23 #[.int .i64 th] σ K := by
  refine Fn.of' is23 (by simp) fun hwf => ?_
  simp only [b23, Tryz.f23, Option.getD_some]
  simp -implicitDefEqProofs (disch := first | omega | (simp only [St.set_n, St.up_n, List.length_cons, List.length_nil]; omega)) only [go_sem, Nat.reduceAdd, Nat.reduceMul, Nat.reduceSub, Int.reduceAdd, Int.reduceMul, Int.reduceSub, Int.reduceNeg, Int.reduceToNat, hn]
  refine loop_rule (fun m e s => ∃ (i : Nat) (vs : List Value), m = n - i ∧ i ≤ n ∧ Nw σ.n n i e ∧ Opn B σ s σ.n 132 (epRoot 0) (spEp { now := 0, pin := List.replicate i (-1), l0 := [], l1 := [], l2 := [] }) vs ∧ σ.n < s.n) n ?_ ?_
  · refine ⟨0, [.slice none 0 0, .slice none 0 0, .slice none 0 0, .slice none 0 0], by omega, by omega, ⟨by simp -implicitDefEqProofs (disch := first | omega | (simp only [St.set_n, St.up_n, List.length_cons, List.length_nil]; omega)) only [go_sem, Nat.reduceAdd, Nat.reduceMul, Nat.reduceSub, Int.reduceAdd, Int.reduceMul, Int.reduceSub, Int.reduceNeg, Int.reduceToNat], by simp -implicitDefEqProofs (disch := first | omega | (simp only [St.set_n, St.up_n, List.length_cons, List.length_nil]; omega)) only [go_sem, Nat.reduceAdd, Nat.reduceMul, Nat.reduceSub, Int.reduceAdd, Int.reduceMul, Int.reduceSub, Int.reduceNeg, Int.reduceToNat], by simp -implicitDefEqProofs (disch := first | omega | (simp only [St.set_n, St.up_n, List.length_cons, List.length_nil]; omega)) only [go_sem, Nat.reduceAdd, Nat.reduceMul, Nat.reduceSub, Int.reduceAdd, Int.reduceMul, Int.reduceSub, Int.reduceNeg, Int.reduceToNat]; rfl, by simp -implicitDefEqProofs (disch := first | omega | (simp only [St.set_n, St.up_n, List.length_cons, List.length_nil]; omega)) only [go_sem, Nat.reduceAdd, Nat.reduceMul, Nat.reduceSub, Int.reduceAdd, Int.reduceMul, Int.reduceSub, Int.reduceNeg, Int.reduceToNat]⟩, ⟨?_, by simp -implicitDefEqProofs (disch := first | omega | (simp only [St.set_n, St.up_n, List.length_cons, List.length_nil]; omega)) only [go_sem, Nat.reduceAdd, Nat.reduceMul, Nat.reduceSub, Int.reduceAdd, Int.reduceMul, Int.reduceSub, Int.reduceNeg, Int.reduceToNat]; rfl, ⟨Own.nil, Own.nil, Own.nil, Own.nil, trivial⟩, by simp -implicitDefEqProofs (disch := first | omega | (simp only [St.set_n, St.up_n, List.length_cons, List.length_nil]; omega)) only [go_sem, Nat.reduceAdd, Nat.reduceMul, Nat.reduceSub, Int.reduceAdd, Int.reduceMul, Int.reduceSub, Int.reduceNeg, Int.reduceToNat], fun c x hc hx => ⟨by simp -implicitDefEqProofs (disch := first | omega | (simp only [St.set_n, St.up_n, List.length_cons, List.length_nil]; omega)) only [go_sem, Nat.reduceAdd, Nat.reduceMul, Nat.reduceSub, Int.reduceAdd, Int.reduceMul, Int.reduceSub, Int.reduceNeg, Int.reduceToNat, hx], by simp -implicitDefEqProofs (disch := first | omega | (simp only [St.set_n, St.up_n, List.length_cons, List.length_nil]; omega)) only [go_sem, Nat.reduceAdd, Nat.reduceMul, Nat.reduceSub, Int.reduceAdd, Int.reduceMul, Int.reduceSub, Int.reduceNeg, Int.reduceToNat]⟩, by simp -implicitDefEqProofs (disch := first | omega | (simp only [St.set_n, St.up_n, List.length_cons, List.length_nil]; omega)) only [go_sem, Nat.reduceAdd, Nat.reduceMul, Nat.reduceSub, Int.reduceAdd, Int.reduceMul, Int.reduceSub, Int.reduceNeg, Int.reduceToNat]; omega⟩, by simp -implicitDefEqProofs (disch := first | omega | (simp only [St.set_n, St.up_n, List.length_cons, List.length_nil]; omega)) only [go_sem, Nat.reduceAdd, Nat.reduceMul, Nat.reduceSub, Int.reduceAdd, Int.reduceMul, Int.reduceSub, Int.reduceNeg, Int.reduceToNat]; omega⟩
    refine ⟨by have := hwf.1; simp -implicitDefEqProofs (disch := first | omega | (simp only [St.set_n, St.up_n, List.length_cons, List.length_nil]; omega)) only [go_sem, Nat.reduceAdd, Nat.reduceMul, Nat.reduceSub, Int.reduceAdd, Int.reduceMul, Int.reduceSub, Int.reduceNeg, Int.reduceToNat]; omega, fun b x hb => ?_⟩
    simp only [St.up_m] at hb
    have := hwf.1
    by_cases e : b = σ.n
    · subst e; simp -implicitDefEqProofs (disch := first | omega | (simp only [St.set_n, St.up_n, List.length_cons, List.length_nil]; omega)) only [go_sem, Nat.reduceAdd, Nat.reduceMul, Nat.reduceSub, Int.reduceAdd, Int.reduceMul, Int.reduceSub, Int.reduceNeg, Int.reduceToNat]; omega
    · rw [St.set_m_ne _ _ e] at hb
      have := hwf.2 b x hb
      simp -implicitDefEqProofs (disch := first | omega | (simp only [St.set_n, St.up_n, List.length_cons, List.length_nil]; omega)) only [go_sem, Nat.reduceAdd, Nat.reduceMul, Nat.reduceSub, Int.reduceAdd, Int.reduceMul, Int.reduceSub, Int.reduceNeg, Int.reduceToNat]; omega
  · rintro m e s hws ⟨i, vs, hm, hi, ⟨q3, q8, q9, hd⟩, O, hsn⟩
    obtain ⟨v1, v2, v3, v4, rfl, o1, o2, o3, o4⟩ := O.own.four
    simp only [List.length_replicate, List.length_nil] at o1 o2 o3 o4
    have hr := O.root
    simp only [epRoot_four] at hr
    by_cases hlt : (i : Int) < n
    · simp -implicitDefEqProofs (disch := first | omega | (simp only [St.set_n, St.up_n, List.length_cons, List.length_nil]; omega)) only [go_sem, Nat.reduceAdd, Nat.reduceMul, Nat.reduceSub, Int.reduceAdd, Int.reduceMul, Int.reduceSub, Int.reduceNeg, Int.reduceToNat, q3, q8, q9, hlt, hr]
      refine appO_one (O.new (.raw (.cells #[.int .i64 (-1)] 3 (0, 0))) (k := s.n + 1) (by omega)) 0 (b := s.n) (s := 1) (bts := 8) (ty' := 3) (fz := (0, 0)) (ys := [.int .i64 (-1)]) rfl rfl se22 kd22 zr3 rfl (by omega) (by simp -implicitDefEqProofs (disch := first | omega | (simp only [St.set_n, St.up_n, List.length_cons, List.length_nil]; omega)) only [go_sem, Nat.reduceAdd, Nat.reduceMul, Nat.reduceSub, Int.reduceAdd, Int.reduceMul, Int.reduceSub, Int.reduceNeg, Int.reduceToNat]) rfl rfl (by simp only [List.length_replicate]; omega) fun A' C' σ' hC' hp' hO hfr hn' => ?_
      have O1 := hO (epRoot 0)
      simp only [List.set_cons_zero, List.set_cons_succ, epRoot_four, spEp, List.length_replicate] at O1 hp'
      simp -implicitDefEqProofs (disch := first | omega | (simp only [St.set_n, St.up_n, List.length_cons, List.length_nil]; omega)) only [go_sem, Nat.reduceAdd, Nat.reduceMul, Nat.reduceSub, Int.reduceAdd, Int.reduceMul, Int.reduceSub, Int.reduceNeg, Int.reduceToNat, hp', q3, q9]
      simp only [List.length_replicate]
      refine ⟨n - (i + 1), by omega, i + 1, _, rfl, by omega, ⟨by simp -implicitDefEqProofs (disch := first | omega | (simp only [St.set_n, St.up_n, List.length_cons, List.length_nil]; omega)) only [go_sem, Nat.reduceAdd, Nat.reduceMul, Nat.reduceSub, Int.reduceAdd, Int.reduceMul, Int.reduceSub, Int.reduceNeg, Int.reduceToNat, q3], by simp -implicitDefEqProofs (disch := first | omega | (simp only [St.set_n, St.up_n, List.length_cons, List.length_nil]; omega)) only [go_sem, Nat.reduceAdd, Nat.reduceMul, Nat.reduceSub, Int.reduceAdd, Int.reduceMul, Int.reduceSub, Int.reduceNeg, Int.reduceToNat, q8], by simp -implicitDefEqProofs (disch := first | omega | (simp only [St.set_n, St.up_n, List.length_cons, List.length_nil]; omega)) only [go_sem, Nat.reduceAdd, Nat.reduceMul, Nat.reduceSub, Int.reduceAdd, Int.reduceMul, Int.reduceSub, Int.reduceNeg, Int.reduceToNat]; simp, by simp -implicitDefEqProofs (disch := first | omega | (simp only [St.set_n, St.up_n, List.length_cons, List.length_nil]; omega)) only [go_sem, Nat.reduceAdd, Nat.reduceMul, Nat.reduceSub, Int.reduceAdd, Int.reduceMul, Int.reduceSub, Int.reduceNeg, Int.reduceToNat, hd]⟩, O1.cast ?_, by simp only [St.set_n, St.up_n] at *; omega⟩
      have : List.replicate (i + 1) (-1 : Int) = List.replicate i (-1) ++ [-1] := List.replicate_succ'
      simp [spEp, ints, this]
    · have : i = n := by omega
      subst this
      simp -implicitDefEqProofs (disch := first | omega | (simp only [St.set_n, St.up_n, List.length_cons, List.length_nil]; omega)) only [go_sem, Nat.reduceAdd, Nat.reduceMul, Nat.reduceSub, Int.reduceAdd, Int.reduceMul, Int.reduceSub, Int.reduceNeg, Int.reduceToNat, q3, q8, q9, hlt, hd]
      exact ⟨_, To.closeO _ O.root O.own O.apart O.fr, hK _ hsn⟩

theorem pool_new {lim lim' : Int} (hl : max (min lim 65536) 0 = lim') (hK : K (.pointer (some ⟨σ.n, 0, none⟩)) ((σ.set σ.n (.raw (.cells #[.slice none 0 0, .slice none 0 0, .int .i64 lim'] 135 (0, 0)))).up (σ.n + 1))) : Fn Tryz.prog B 24 #[.int .i64 lim] σ K := by
  refine Fn.of is24 (by simp) fun hwf => ?_
  simp only [b24, Tryz.f24, Option.getD_some]
  simp -implicitDefEqProofs (disch := first | omega | (simp only [St.set_n, St.up_n, List.length_cons, List.length_nil]; omega)) only [go_sem, Nat.reduceAdd, Nat.reduceMul, Nat.reduceSub, Int.reduceAdd, Int.reduceMul, Int.reduceSub, Int.reduceNeg, Int.reduceToNat, hl]
  exact hK
theorem pool_at {b n cap p i : Nat} {v : Value} {lim : Int} (hr : σ.m p = some (.raw (.cells #[.slice (some ⟨b, 0, none⟩) n cap, v, .int .i64 lim] 135 (0, 0)))) (hi : i < n) (hn : n ≤ 1000000) (hK : K (.pointer (some ⟨b, i * 4, none⟩)) σ) :
    Fn Tryz.prog B 60 #[.pointer (some ⟨p, 0, none⟩), .int .i64 (i + 1)] σ K := by
  refine Fn.of is60 (by simp) fun hwf => ?_
  simp only [b60, Tryz.f60, Option.getD_some]
  have e1 : (i : Int) + 1 - 1 = i := by omega
  simp -implicitDefEqProofs (disch := first | omega | (simp only [St.set_n, St.up_n, List.length_cons, List.length_nil]; omega)) only [go_sem, Nat.reduceAdd, Nat.reduceMul, Nat.reduceSub, Int.reduceAdd, Int.reduceMul, Int.reduceSub, Int.reduceNeg, Int.reduceToNat, hr, e1]
  exact hK
/-- The first place of a new pool. -/
theorem pool_take {p : Nat} {x : Value} {xi : Int} {lim : Int} (hx : x = .agg #[.pointer none, .int .i64 xi]) (hr : σ.m p = some (.raw (.cells #[.slice none 0 0, .slice none 0 0, .int .i64 lim] 135 (0, 0)))) (hl : 0 < lim)
    (hK : ∀ τ, σ.n ≤ τ.n → (∀ c, c < σ.n → c ≠ p → τ.m c = σ.m c) → K (.tuple #[.int .i64 1, .int .i64 0, .int .i64 0]) τ) : Fn Tryz.prog B 26 #[.pointer (some ⟨p, 0, none⟩), x] σ K := by
  subst hx
  refine Fn.of is26 (by simp) fun hwf => ?_
  have hB := hwf.1
  have hpn := (hwf.2 _ _ hr).2
  simp only [b26, Tryz.f26, Option.getD_some]
  simp -implicitDefEqProofs (disch := first | omega | (simp only [St.set_n, St.up_n, List.length_cons, List.length_nil]; omega)) only [go_sem, Nat.reduceAdd, Nat.reduceMul, Nat.reduceSub, Int.reduceAdd, Int.reduceMul, Int.reduceSub, Int.reduceNeg, Int.reduceToNat, hr, hl]
  have hw1 := set_wf1 (y := .raw (.cells #[.pointer none, .int .i64 xi] 77 (0, 0))) hwf
  refine appE (s := (σ.set σ.n (.raw (.cells #[.pointer none, .int .i64 xi] 77 (0, 0)))).up (σ.n + 1)) hw1 Own.nil se133 kd133 zr140 rfl (by omega) (ys := [.pointer none, .int .i64 0, .int .i64 0, .bool false]) rfl rfl (by omega) fun A' C' s3 hC' o3 heq hb' hn3 hw3 => ?_
  have hp3 : s3.m p = some (.raw (.cells #[.slice none 0 0, .slice none 0 0, .int .i64 lim] 135 (0, 0))) := by
    rw [heq p (by simp only [St.up_n]; omega) (fun e => by cases e)]
    simp -implicitDefEqProofs (disch := first | omega | (simp only [St.set_n, St.up_n, List.length_cons, List.length_nil]; omega)) only [go_sem, Nat.reduceAdd, Nat.reduceMul, Nat.reduceSub, Int.reduceAdd, Int.reduceMul, Int.reduceSub, Int.reduceNeg, Int.reduceToNat, hr]
  have hx3 : s3.m σ.n = some (.raw (.cells #[.pointer none, .int .i64 xi] 77 (0, 0))) := by
    rw [heq σ.n (by simp only [St.up_n]; omega) (fun e => by cases e)]
    simp -implicitDefEqProofs (disch := first | omega | (simp only [St.set_n, St.up_n, List.length_cons, List.length_nil]; omega)) only [go_sem, Nat.reduceAdd, Nat.reduceMul, Nat.reduceSub, Int.reduceAdd, Int.reduceMul, Int.reduceSub, Int.reduceNeg, Int.reduceToNat]
  have hk3 : ∀ c, c < σ.n → s3.m c = σ.m c := fun c hc => by
    rw [heq c (by simp only [St.up_n]; omega) (fun e => by cases e)]
    simp -implicitDefEqProofs (disch := first | omega | (simp only [St.set_n, St.up_n, List.length_cons, List.length_nil]; omega)) only [go_sem, Nat.reduceAdd, Nat.reduceMul, Nat.reduceSub, Int.reduceAdd, Int.reduceMul, Int.reduceSub, Int.reduceNeg, Int.reduceToNat]
  obtain ⟨b1, c1, sp1, e1, hc1, m1, l1, k1⟩ := o3.has (by omega)
  cases e1
  have hb1 := (hb' b1 rfl).resolve_right (fun e => by cases e)
  simp only [St.up_n] at hb1 hn3
  have hb1n := (hw3.2 _ _ m1).2
  simp -implicitDefEqProofs (disch := first | omega | (simp only [St.set_n, St.up_n, List.length_cons, List.length_nil]; omega)) only [go_sem, Nat.reduceAdd, Nat.reduceMul, Nat.reduceSub, Int.reduceAdd, Int.reduceMul, Int.reduceSub, Int.reduceNeg, Int.reduceToNat, hp3]
  refine callF_of (pool_at (b := b1) (i := 0) (n := 1) (cap := C') (v := .slice none 0 0) (lim := lim) (by simp -implicitDefEqProofs (disch := first | omega | (simp only [St.set_n, St.up_n, List.length_cons, List.length_nil]; omega)) only [go_sem, Nat.reduceAdd, Nat.reduceMul, Nat.reduceSub, Int.reduceAdd, Int.reduceMul, Int.reduceSub, Int.reduceNeg, Int.reduceToNat]) (by omega) (by omega) ?_)
  simp -implicitDefEqProofs (disch := first | omega | (simp only [St.set_n, St.up_n, List.length_cons, List.length_nil]; omega)) only [go_sem, Nat.reduceAdd, Nat.reduceMul, Nat.reduceSub, Int.reduceAdd, Int.reduceMul, Int.reduceSub, Int.reduceNeg, Int.reduceToNat, m1, hx3]
  refine hK _ ?_ fun c hc hcp => ?_
  · simp only [St.set_n]; omega
  · have h3 := hk3 c hc
    simp -implicitDefEqProofs (disch := first | omega | (simp only [St.set_n, St.up_n, List.length_cons, List.length_nil]; omega)) only [go_sem, Nat.reduceAdd, Nat.reduceMul, Nat.reduceSub, Int.reduceAdd, Int.reduceMul, Int.reduceSub, Int.reduceNeg, Int.reduceToNat]
    exact h3
theorem cellR_new {a b : Int} (hK : K (.pointer (some ⟨σ.n + 1, 0, none⟩)) (((σ.set σ.n (.raw (.cells #[.int .i64 a, .int .i64 b] 92 (0, 0)))).set (σ.n + 1) (.raw (.cells #[.int .i64 a, .int .i64 b, .int .i64 0] 144 (0, 0)))).up (σ.n + 1 + 1))) : Fn Tryz.prog B 27 #[.agg #[.int .i64 a, .int .i64 b]] σ K := by
  refine Fn.of is27 (by simp) fun hwf => ?_
  simp only [b27, Tryz.f27, Option.getD_some]
  simp -implicitDefEqProofs (disch := first | omega | (simp only [St.set_n, St.up_n, List.length_cons, List.length_nil]; omega)) only [go_sem, Nat.reduceAdd, Nat.reduceMul, Nat.reduceSub, Int.reduceAdd, Int.reduceMul, Int.reduceSub, Int.reduceNeg, Int.reduceToNat]
  exact hK
theorem cellS_new {v : Value} {a : Option Addr} (hv : v = .pointer a) (hK : K (.pointer (some ⟨σ.n, 0, none⟩)) ((σ.set σ.n (.raw (.cells #[v, .int .i64 0] 146 (0, 0)))).up (σ.n + 1))) : Fn Tryz.prog B 28 #[v] σ K := by
  subst hv
  refine Fn.of is28 (by simp) fun hwf => ?_
  simp only [b28, Tryz.f28, Option.getD_some]
  simp -implicitDefEqProofs (disch := first | omega | (simp only [St.set_n, St.up_n, List.length_cons, List.length_nil]; omega)) only [go_sem, Nat.reduceAdd, Nat.reduceMul, Nat.reduceSub, Int.reduceAdd, Int.reduceMul, Int.reduceSub, Int.reduceNeg, Int.reduceToNat]
  exact hK
end
end Go.Proofs.YtdbgeahmhfocaaaGreat
