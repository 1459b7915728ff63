/- Epochs: contracts, by walks. -/
import Derived.Test.YtgcojbgkenndhaaFacts
namespace Go.Proofs.Ytgcojbgkenndhaa
set_option linter.unusedSimpArgs false
set_option linter.unusedVariables false
set_option maxRecDepth 100000
open Go Go.RowKit
section
variable {B : World} {σ : St} {K : Value → St → Prop}

theorem same_ints {l l' : List Int} {v v' : Value} (hbd : l.length < 4611686018427387904) (h : Own σ 3 1 (ints l) l.length v) (h' : Own σ 3 1 (ints l') l'.length v') (hK : K (.bool (decide (l = l'))) σ) : Fn Try.prog B 26 #[v, v'] σ K := by
  obtain ⟨a, cap, rfl, hc⟩ := h.is
  obtain ⟨a', cap', rfl, hc'⟩ := h'.is
  have hat : ∀ i x, l[i]? = some x → ∃ b, a = some ⟨b, 0, none⟩ ∧ ∃ c : Array Value, σ.m b = some (.raw (.cells c 3 (0, 0))) ∧ c[i]? = some (Value.int .i64 x) := fun i x hx => by
    obtain ⟨_, ⟨h2, h3⟩ | ⟨b, cap, sp, h2, _, h3, _⟩⟩ := h
    · rw [h3] at hc; have := (List.getElem?_eq_some_iff.1 hx).1; omega
    · cases h2; exact ⟨b, rfl, _, h3, by rw [List.getElem?_toArray]; exact ints_get hx sp⟩
  have hat' : ∀ i x, l'[i]? = some x → ∃ b, a' = some ⟨b, 0, none⟩ ∧ ∃ c : Array Value, σ.m b = some (.raw (.cells c 3 (0, 0))) ∧ c[i]? = some (Value.int .i64 x) := fun i x hx => by
    obtain ⟨_, ⟨h2, h3⟩ | ⟨b, cap, sp, h2, _, h3, _⟩⟩ := h'
    · rw [h3] at hc'; have := (List.getElem?_eq_some_iff.1 hx).1; omega
    · cases h2; exact ⟨b, rfl, _, h3, by rw [List.getElem?_toArray]; exact ints_get hx sp⟩
  refine Fn.of is26 (by simp) fun hwf => ?_
  simp only [b26, Try.f26, Option.getD_some]
  simp -implicitDefEqProofs (disch := first | omega | (simp only [St.set_n, St.up_n, List.length_cons, List.length_nil]; omega)) only [go_sem, Nat.reduceAdd, Nat.reduceMul, Nat.reduceSub, Int.reduceAdd, Int.reduceMul, Int.reduceSub, Int.reduceNeg, Int.reduceToNat]
  by_cases hll : l.length = l'.length
  · have hll' : (l.length : Int) = l'.length := by omega
    simp -implicitDefEqProofs (disch := first | omega | (simp only [St.set_n, St.up_n, List.length_cons, List.length_nil]; omega)) only [go_sem, Nat.reduceAdd, Nat.reduceMul, Nat.reduceSub, Int.reduceAdd, Int.reduceMul, Int.reduceSub, Int.reduceNeg, Int.reduceToNat, hll']
    refine loop_rule (fun m e s => ∃ i : Nat, m = l.length - i ∧ i ≤ l.length ∧ e.v 0 = .slice a l.length cap ∧ e.v 1 = .slice a' l'.length cap' ∧ e.v 5 = .int .i64 i ∧ e.d = [] ∧ s = σ ∧ ∀ j, j < i → l[j]? = l'[j]?) l.length ?_ ?_
    · refine ⟨0, by omega, by omega, ?_⟩
      simp -implicitDefEqProofs (disch := first | omega | (simp only [St.set_n, St.up_n, List.length_cons, List.length_nil]; omega)) only [go_sem, Nat.reduceAdd, Nat.reduceMul, Nat.reduceSub, Int.reduceAdd, Int.reduceMul, Int.reduceSub, Int.reduceNeg, Int.reduceToNat]
      simp
    · rintro m e s hws ⟨i, hm, hi, h0, h1, h5, hd, rfl, hall⟩
      simp -implicitDefEqProofs (disch := first | omega | (simp only [St.set_n, St.up_n, List.length_cons, List.length_nil]; omega)) only [go_sem, Nat.reduceAdd, Nat.reduceMul, Nat.reduceSub, Int.reduceAdd, Int.reduceMul, Int.reduceSub, Int.reduceNeg, Int.reduceToNat, h0, h1, h5]
      by_cases hlt : (i : Int) < l.length
      · obtain ⟨x, hx⟩ : ∃ x, l[i]? = some x := ⟨l[i]'(by omega), List.getElem?_eq_getElem (by omega)⟩
        obtain ⟨y, hy⟩ : ∃ x, l'[i]? = some x := ⟨l'[i]'(by omega), List.getElem?_eq_getElem (by omega)⟩
        obtain ⟨b, rfl, c, hm1, hm2⟩ := hat i x hx
        obtain ⟨b', rfl, c', hm1', hm2'⟩ := hat' i y hy
        have hlt' : (i : Int) < l'.length := by omega
        simp -implicitDefEqProofs (disch := first | omega | (simp only [St.set_n, St.up_n, List.length_cons, List.length_nil]; omega)) only [go_sem, Nat.reduceAdd, Nat.reduceMul, Nat.reduceSub, Int.reduceAdd, Int.reduceMul, Int.reduceSub, Int.reduceNeg, Int.reduceToNat, h0, h1, h5, hlt, hlt', hm1, hm2, hm1', hm2']
        by_cases hxy : x = y
        · simp -implicitDefEqProofs (disch := first | omega | (simp only [St.set_n, St.up_n, List.length_cons, List.length_nil]; omega)) only [go_sem, Nat.reduceAdd, Nat.reduceMul, Nat.reduceSub, Int.reduceAdd, Int.reduceMul, Int.reduceSub, Int.reduceNeg, Int.reduceToNat, hxy, h0, h1, h5]
          refine ⟨l.length - (i + 1), by omega, i + 1, rfl, by omega, ?_⟩
          simp -implicitDefEqProofs (disch := first | omega | (simp only [St.set_n, St.up_n, List.length_cons, List.length_nil]; omega)) only [go_sem, Nat.reduceAdd, Nat.reduceMul, Nat.reduceSub, Int.reduceAdd, Int.reduceMul, Int.reduceSub, Int.reduceNeg, Int.reduceToNat, h0, h1, h5, hd]
          simp only [Int.natCast_add, Int.cast_ofNat_Int, true_and]
          intro j hj
          by_cases hji : j = i
          · subst hji; rw [hx, hy, hxy]
          · exact hall j (by omega)
        · simp -implicitDefEqProofs (disch := first | omega | (simp only [St.set_n, St.up_n, List.length_cons, List.length_nil]; omega)) only [go_sem, Nat.reduceAdd, Nat.reduceMul, Nat.reduceSub, Int.reduceAdd, Int.reduceMul, Int.reduceSub, Int.reduceNeg, Int.reduceToNat, hxy, hd]
          have : ¬ l = l' := fun h => hxy (by rw [h, hy] at hx; exact (Option.some.inj hx).symm)
          simpa [this] using hK
      · simp -implicitDefEqProofs (disch := first | omega | (simp only [St.set_n, St.up_n, List.length_cons, List.length_nil]; omega)) only [go_sem, Nat.reduceAdd, Nat.reduceMul, Nat.reduceSub, Int.reduceAdd, Int.reduceMul, Int.reduceSub, Int.reduceNeg, Int.reduceToNat, h0, h1, h5, hlt, hd]
        have : l = l' := List.ext_getElem? fun j => by
          by_cases hj : j < i
          · exact hall j hj
          · rw [List.getElem?_eq_none (by omega), List.getElem?_eq_none (by omega)]
        simpa [this] using hK
  · have hll' : ¬ (l.length : Int) = l'.length := by omega
    simp -implicitDefEqProofs (disch := first | omega | (simp only [St.set_n, St.up_n, List.length_cons, List.length_nil]; omega)) only [go_sem, Nat.reduceAdd, Nat.reduceMul, Nat.reduceSub, Int.reduceAdd, Int.reduceMul, Int.reduceSub, Int.reduceNeg, Int.reduceToNat, hll']
    have : ¬ l = l' := fun h => hll (by rw [h])
    simpa [this] using hK

/-! ### The epochs -/
structure ES where
  now : Nat
  pin : List Int
  l0 : List Int
  l1 : List Int
  l2 : List Int
def epRoot (now : Nat) : List Value → List Value
  | [p, a, b, c] => [.int .i64 now, p, a, b, c]
  | _ => []
@[go_sem] theorem epRoot_four {now : Nat} {p a b c : Value} : epRoot now [p, a, b, c] = [.int .i64 now, p, a, b, c] := rfl
def spEp (S : ES) : List Sp := [⟨3, 1, ints S.pin, S.pin.length⟩, ⟨3, 1, ints S.l0, S.l0.length⟩, ⟨3, 1, ints S.l1, S.l1.length⟩, ⟨3, 1, ints S.l2, S.l2.length⟩]
abbrev EpR (S : ES) (p : Nat) : Heaplet → Prop := Obj 98 (epRoot S.now) (spEp S) p

theorem ep_there {p n : Nat} {A : Option Addr} {c : Nat} {now : Int} {a b d : Value} {t : Int} (hr : σ.m p = some (.raw (.cells #[.int .i64 now, .slice A n c, a, b, d] 98 (0, 0)))) (hK : K (.bool (decide (0 ≤ t ∧ t < n))) σ) :
    Fn Try.prog B 49 #[.pointer (some ⟨p, 0, none⟩), .int .i64 t] σ K := by
  refine Fn.of is49 (by simp) fun hwf => ?_
  simp only [b49, Try.f49, Option.getD_some]
  by_cases h : 0 ≤ t
  · simp -implicitDefEqProofs (disch := first | omega | (simp only [St.set_n, St.up_n, List.length_cons, List.length_nil]; omega)) only [go_sem, Nat.reduceAdd, Nat.reduceMul, Nat.reduceSub, Int.reduceAdd, Int.reduceMul, Int.reduceSub, Int.reduceNeg, Int.reduceToNat, hr, h]
    simpa [h] using hK
  · simp -implicitDefEqProofs (disch := first | omega | (simp only [St.set_n, St.up_n, List.length_cons, List.length_nil]; omega)) only [go_sem, Nat.reduceAdd, Nat.reduceMul, Nat.reduceSub, Int.reduceAdd, Int.reduceMul, Int.reduceSub, Int.reduceNeg, Int.reduceToNat, hr, h]
    simpa [h] using hK
theorem ep_there_nil {t : Int} (hK : K (.bool false) σ) : Fn Try.prog B 49 #[.pointer none, .int .i64 t] σ K := by
  refine Fn.of is49 (by simp) fun hwf => ?_
  simp only [b49, Try.f49, Option.getD_some]
  simp -implicitDefEqProofs (disch := first | omega | (simp only [St.set_n, St.up_n, List.length_cons, List.length_nil]; omega)) only [go_sem, Nat.reduceAdd, Nat.reduceMul, Nat.reduceSub, Int.reduceAdd, Int.reduceMul, Int.reduceSub, Int.reduceNeg, Int.reduceToNat]
  exact hK
/-- Is a thread pinned? -/
def isPin (pin : List Int) (t : Int) : Bool := decide (0 ≤ t ∧ t < pin.length) && decide (0 ≤ pin.getD t.toNat (-1))
theorem ep_pinned_o {p : Nat} {pin : List Int} {v : Value} {now : Int} {a b d : Value} {t : Int} (hr : σ.m p = some (.raw (.cells #[.int .i64 now, v, a, b, d] 98 (0, 0)))) (ho : Own σ 3 1 (ints pin) pin.length v) (hK : K (.bool (isPin pin t)) σ) :
    Fn Try.prog B 17 #[.pointer (some ⟨p, 0, none⟩), .int .i64 t] σ K := by
  obtain ⟨A, c, rfl, hc⟩ := ho.is
  refine Fn.of is17 (by simp) fun hwf => ?_
  simp only [b17, Try.f17, Option.getD_some]
  simp -implicitDefEqProofs (disch := first | omega | (simp only [St.set_n, St.up_n, List.length_cons, List.length_nil]; omega)) only [go_sem, Nat.reduceAdd, Nat.reduceMul, Nat.reduceSub, Int.reduceAdd, Int.reduceMul, Int.reduceSub, Int.reduceNeg, Int.reduceToNat]
  refine callF_of (ep_there hr ?_)
  by_cases hin : 0 ≤ t ∧ t < pin.length
  · obtain ⟨i, rfl⟩ : ∃ i : Nat, t = (i : Int) := ⟨t.toNat, by omega⟩
    obtain ⟨x, hx⟩ : ∃ x, pin[i]? = some x := ⟨pin[i]'(by omega), List.getElem?_eq_getElem (by omega)⟩
    obtain ⟨b1, c1, sp1, e1, _, m1, _, _⟩ := ho.has (by omega)
    cases e1
    have g1 : (ints pin ++ sp1)[i]? = some (.int .i64 x) := ints_get hx sp1
    simp -implicitDefEqProofs (disch := first | omega | (simp only [St.set_n, St.up_n, List.length_cons, List.length_nil]; omega)) only [go_sem, Nat.reduceAdd, Nat.reduceMul, Nat.reduceSub, Int.reduceAdd, Int.reduceMul, Int.reduceSub, Int.reduceNeg, Int.reduceToNat, hr, hin, m1, g1]
    simpa [isPin, hin, List.getD, hx] using hK
  · simp -implicitDefEqProofs (disch := first | omega | (simp only [St.set_n, St.up_n, List.length_cons, List.length_nil]; omega)) only [go_sem, Nat.reduceAdd, Nat.reduceMul, Nat.reduceSub, Int.reduceAdd, Int.reduceMul, Int.reduceSub, Int.reduceNeg, Int.reduceToNat, hr, hin]
    simpa [isPin, hin] using hK
theorem ep_pinned {S : ES} {p : Nat} {t : Int} (hm : σ.m p = some (.comp (EpR S p))) (hK : ∀ k, σ.n ≤ k → K (.bool (isPin S.pin t)) (σ.up k)) : Fn Try.prog B 17 #[.pointer (some ⟨p, 0, none⟩), .int .i64 t] σ K := by
  refine Fn.toK (Fn.openO hm is17.en fun vs τ hwf hn hr ho ha hk => ?_)
  obtain ⟨v1, v2, v3, v4, rfl, o1, o2, o3, o4⟩ := ho.four
  simp only [epRoot_four] at hr
  exact ep_pinned_o hr o1 ((⟨hwf, hr, ho, ha, hk, by omega⟩ : Opn B σ τ p 98 (epRoot S.now) (spEp S) [v1, v2, v3, v4]).close' hm hK)
theorem ep_pinned_nil {t : Int} (hK : K (.bool false) σ) : Fn Try.prog B 17 #[.pointer none, .int .i64 t] σ K := by
  refine Fn.of is17 (by simp) fun hwf => ?_
  simp only [b17, Try.f17, Option.getD_some]
  simp -implicitDefEqProofs (disch := first | omega | (simp only [St.set_n, St.up_n, List.length_cons, List.length_nil]; omega)) only [go_sem, Nat.reduceAdd, Nat.reduceMul, Nat.reduceSub, Int.reduceAdd, Int.reduceMul, Int.reduceSub, Int.reduceNeg, Int.reduceToNat]
  refine callF_of (ep_there_nil ?_)
  simp -implicitDefEqProofs (disch := first | omega | (simp only [St.set_n, St.up_n, List.length_cons, List.length_nil]; omega)) only [go_sem, Nat.reduceAdd, Nat.reduceMul, Nat.reduceSub, Int.reduceAdd, Int.reduceMul, Int.reduceSub, Int.reduceNeg, Int.reduceToNat]
  exact hK
theorem ep_pin {S : ES} {p : Nat} {t : Int} (hm : σ.m p = some (.comp (EpR S p)))
    (hK : ∀ k, σ.n ≤ k → K (.bool (decide (0 ≤ t ∧ t < S.pin.length) && !isPin S.pin t)) ((σ.set p (.comp (EpR (if 0 ≤ t ∧ t < S.pin.length ∧ isPin S.pin t = false then { S with pin := S.pin.set t.toNat S.now } else S) p))).up k)) :
    Fn Try.prog B 15 #[.pointer (some ⟨p, 0, none⟩), .int .i64 t] σ K := by
  refine Fn.opn hm is15 (by simp) fun vs τ hn O => ?_
  obtain ⟨v1, v2, v3, v4, rfl, o1, o2, o3, o4⟩ := O.own.four
  simp only at o1 o2 o3 o4
  obtain ⟨A, c, rfl, hc⟩ := o1.is
  have hr := O.root
  simp only [epRoot_four] at hr
  simp only [b15, Try.f15, Option.getD_some]
  simp -implicitDefEqProofs (disch := first | omega | (simp only [St.set_n, St.up_n, List.length_cons, List.length_nil]; omega)) only [go_sem, Nat.reduceAdd, Nat.reduceMul, Nat.reduceSub, Int.reduceAdd, Int.reduceMul, Int.reduceSub, Int.reduceNeg, Int.reduceToNat]
  refine callF_of (ep_there hr ?_)
  by_cases hin : 0 ≤ t ∧ t < S.pin.length
  · simp -implicitDefEqProofs (disch := first | omega | (simp only [St.set_n, St.up_n, List.length_cons, List.length_nil]; omega)) only [go_sem, Nat.reduceAdd, Nat.reduceMul, Nat.reduceSub, Int.reduceAdd, Int.reduceMul, Int.reduceSub, Int.reduceNeg, Int.reduceToNat, hin]
    refine callF_of (ep_pinned_o hr o1 ?_)
    cases hp : isPin S.pin t with
    | true =>
      simp -implicitDefEqProofs (disch := first | omega | (simp only [St.set_n, St.up_n, List.length_cons, List.length_nil]; omega)) only [go_sem, Nat.reduceAdd, Nat.reduceMul, Nat.reduceSub, Int.reduceAdd, Int.reduceMul, Int.reduceSub, Int.reduceNeg, Int.reduceToNat]
      rw [hp, if_neg (by simp)] at hK
      refine O.close fun k hk => ?_
      simpa using hK k hk
    | false =>
      obtain ⟨i, rfl⟩ : ∃ i : Nat, t = (i : Int) := ⟨t.toNat, by omega⟩
      obtain ⟨b1, c1, sp1, e1, _, m1, l1, _⟩ := o1.has (by omega)
      cases e1
      have s1 := ints_set (l := S.pin) (i := i) sp1 (by omega) S.now
      rw [hp, if_pos ⟨hin.1, hin.2, rfl⟩] at hK
      simp -implicitDefEqProofs (disch := first | omega | (simp only [St.set_n, St.up_n, List.length_cons, List.length_nil]; omega)) only [go_sem, Nat.reduceAdd, Nat.reduceMul, Nat.reduceSub, Int.reduceAdd, Int.reduceMul, Int.reduceSub, Int.reduceNeg, Int.reduceToNat, hr, hin, m1, l1, s1]
      refine effD_cut (by kernel_rfl) ?_
      simp -implicitDefEqProofs (disch := first | omega | (simp only [St.set_n, St.up_n, List.length_cons, List.length_nil]; omega)) only [go_sem, Nat.reduceAdd, Nat.reduceMul, Nat.reduceSub, Int.reduceAdd, Int.reduceMul, Int.reduceSub, Int.reduceNeg, Int.reduceToNat, hr, hin, m1, l1, s1]
      have O1 := O.wr (i := 0) (x := ⟨3, 1, ints S.pin, S.pin.length⟩) (cs' := ints (S.pin.set i S.now)) rfl rfl m1 (by simp [ints])
      refine (O1.cast ?_).close (by simpa [hin] using hK)
      simp [spEp]
  · simp -implicitDefEqProofs (disch := first | omega | (simp only [St.set_n, St.up_n, List.length_cons, List.length_nil]; omega)) only [go_sem, Nat.reduceAdd, Nat.reduceMul, Nat.reduceSub, Int.reduceAdd, Int.reduceMul, Int.reduceSub, Int.reduceNeg, Int.reduceToNat, hin]
    rw [if_neg (fun h => hin ⟨h.1, h.2.1⟩)] at hK
    exact O.close (by simpa [hin] using hK)

theorem ep_pin_nil {t : Int} (hK : K (.bool false) σ) : Fn Try.prog B 15 #[.pointer none, .int .i64 t] σ K := by
  refine Fn.of is15 (by simp) fun hwf => ?_
  simp only [b15, Try.f15, Option.getD_some]
  simp -implicitDefEqProofs (disch := first | omega | (simp only [St.set_n, St.up_n, List.length_cons, List.length_nil]; omega)) only [go_sem, Nat.reduceAdd, Nat.reduceMul, Nat.reduceSub, Int.reduceAdd, Int.reduceMul, Int.reduceSub, Int.reduceNeg, Int.reduceToNat]
  refine callF_of (ep_there_nil ?_)
  simp -implicitDefEqProofs (disch := first | omega | (simp only [St.set_n, St.up_n, List.length_cons, List.length_nil]; omega)) only [go_sem, Nat.reduceAdd, Nat.reduceMul, Nat.reduceSub, Int.reduceAdd, Int.reduceMul, Int.reduceSub, Int.reduceNeg, Int.reduceToNat]
  exact hK
theorem ep_unpin {S : ES} {p : Nat} {t : Int} (hm : σ.m p = some (.comp (EpR S p)))
    (hK : ∀ k, σ.n ≤ k → K (.bool (isPin S.pin t)) ((σ.set p (.comp (EpR (if isPin S.pin t = true then { S with pin := S.pin.set t.toNat (-1) } else S) p))).up k)) :
    Fn Try.prog B 16 #[.pointer (some ⟨p, 0, none⟩), .int .i64 t] σ K := by
  refine Fn.opn hm is16 (by simp) fun vs τ hn O => ?_
  obtain ⟨v1, v2, v3, v4, rfl, o1, o2, o3, o4⟩ := O.own.four
  simp only at o1 o2 o3 o4
  have hr := O.root
  simp only [epRoot_four] at hr
  simp only [b16, Try.f16, Option.getD_some]
  simp -implicitDefEqProofs (disch := first | omega | (simp only [St.set_n, St.up_n, List.length_cons, List.length_nil]; omega)) only [go_sem, Nat.reduceAdd, Nat.reduceMul, Nat.reduceSub, Int.reduceAdd, Int.reduceMul, Int.reduceSub, Int.reduceNeg, Int.reduceToNat]
  refine callF_of (ep_pinned_o hr o1 ?_)
  cases hp : isPin S.pin t with
  | false =>
    rw [hp, if_neg (by simp)] at hK
    simp -implicitDefEqProofs (disch := first | omega | (simp only [St.set_n, St.up_n, List.length_cons, List.length_nil]; omega)) only [go_sem, Nat.reduceAdd, Nat.reduceMul, Nat.reduceSub, Int.reduceAdd, Int.reduceMul, Int.reduceSub, Int.reduceNeg, Int.reduceToNat]
    exact O.close hK
  | true =>
    have hin : 0 ≤ t ∧ t < S.pin.length := by
      simp only [isPin, Bool.and_eq_true, decide_eq_true_eq] at hp
      exact hp.1
    obtain ⟨i, rfl⟩ : ∃ i : Nat, t = (i : Int) := ⟨t.toNat, by omega⟩
    obtain ⟨b1, c1, sp1, e1, _, m1, l1, _⟩ := o1.has (by omega)
    cases e1
    have s1 := ints_set (l := S.pin) (i := i) sp1 (by omega) (-1)
    rw [hp, if_pos rfl] at hK
    simp -implicitDefEqProofs (disch := first | omega | (simp only [St.set_n, St.up_n, List.length_cons, List.length_nil]; omega)) only [go_sem, Nat.reduceAdd, Nat.reduceMul, Nat.reduceSub, Int.reduceAdd, Int.reduceMul, Int.reduceSub, Int.reduceNeg, Int.reduceToNat, hr, hin, m1, l1, s1]
    have O1 := O.wr (i := 0) (x := ⟨3, 1, ints S.pin, S.pin.length⟩) (cs' := ints (S.pin.set i (-1))) rfl rfl m1 (by simp [ints])
    refine (O1.cast ?_).close hK
    simp [spEp]
theorem ep_unpin_nil {t : Int} (hK : K (.bool false) σ) : Fn Try.prog B 16 #[.pointer none, .int .i64 t] σ K := by
  refine Fn.of is16 (by simp) fun hwf => ?_
  simp only [b16, Try.f16, Option.getD_some]
  simp -implicitDefEqProofs (disch := first | omega | (simp only [St.set_n, St.up_n, List.length_cons, List.length_nil]; omega)) only [go_sem, Nat.reduceAdd, Nat.reduceMul, Nat.reduceSub, Int.reduceAdd, Int.reduceMul, Int.reduceSub, Int.reduceNeg, Int.reduceToNat]
  refine callF_of (ep_pinned_nil ?_)
  simp -implicitDefEqProofs (disch := first | omega | (simp only [St.set_n, St.up_n, List.length_cons, List.length_nil]; omega)) only [go_sem, Nat.reduceAdd, Nat.reduceMul, Nat.reduceSub, Int.reduceAdd, Int.reduceMul, Int.reduceSub, Int.reduceNeg, Int.reduceToNat]
  exact hK
theorem ep_now {S : ES} {p : Nat} (hm : σ.m p = some (.comp (EpR S p))) (hK : ∀ k, σ.n ≤ k → K (.int .i64 S.now) (σ.up k)) : Fn Try.prog B 27 #[.pointer (some ⟨p, 0, none⟩)] σ K := by
  refine Fn.opn hm is27 (by simp) fun vs τ hn O => ?_
  obtain ⟨v1, v2, v3, v4, rfl, o1, o2, o3, o4⟩ := O.own.four
  have hr := O.root
  simp only [epRoot_four] at hr
  simp only [b27, Try.f27, Option.getD_some]
  simp -implicitDefEqProofs (disch := first | omega | (simp only [St.set_n, St.up_n, List.length_cons, List.length_nil]; omega)) only [go_sem, Nat.reduceAdd, Nat.reduceMul, Nat.reduceSub, Int.reduceAdd, Int.reduceMul, Int.reduceSub, Int.reduceNeg, Int.reduceToNat, hr]
  exact O.close' hm hK
theorem ep_now_nil (hK : K (.int .i64 0) σ) : Fn Try.prog B 27 #[.pointer none] σ K := by
  refine Fn.of is27 (by simp) fun hwf => ?_
  simp only [b27, Try.f27, Option.getD_some]
  simp -implicitDefEqProofs (disch := first | omega | (simp only [St.set_n, St.up_n, List.length_cons, List.length_nil]; omega)) only [go_sem, Nat.reduceAdd, Nat.reduceMul, Nat.reduceSub, Int.reduceAdd, Int.reduceMul, Int.reduceSub, Int.reduceNeg, Int.reduceToNat]
  exact hK
theorem ep_retire_nil {x : Int} (hK : K (.tuple #[]) σ) : Fn Try.prog B 18 #[.pointer none, .int .i64 x] σ K := by
  refine Fn.of is18 (by simp) fun hwf => ?_
  simp only [b18, Try.f18, Option.getD_some]
  simp -implicitDefEqProofs (disch := first | omega | (simp only [St.set_n, St.up_n, List.length_cons, List.length_nil]; omega)) only [go_sem, Nat.reduceAdd, Nat.reduceMul, Nat.reduceSub, Int.reduceAdd, Int.reduceMul, Int.reduceSub, Int.reduceNeg, Int.reduceToNat]
  exact hK
theorem ep_waiting_nil (hK : K (.int .i64 0) σ) : Fn Try.prog B 20 #[.pointer none] σ K := by
  refine Fn.of is20 (by simp) fun hwf => ?_
  simp only [b20, Try.f20, Option.getD_some]
  simp -implicitDefEqProofs (disch := first | omega | (simp only [St.set_n, St.up_n, List.length_cons, List.length_nil]; omega)) only [go_sem, Nat.reduceAdd, Nat.reduceMul, Nat.reduceSub, Int.reduceAdd, Int.reduceMul, Int.reduceSub, Int.reduceNeg, Int.reduceToNat]
  exact hK
def ES.put (S : ES) (j : Nat) (l : List Int) : ES := match j with | 0 => { S with l0 := l } | 1 => { S with l1 := l } | _ => { S with l2 := l }
def ES.get (S : ES) (j : Nat) : List Int := match j with | 0 => S.l0 | 1 => S.l1 | _ => S.l2
theorem ep_retire0 {S : ES} {p : Nat} {x : Int} (hj : S.now % 3 = 0) (hm : σ.m p = some (.comp (EpR S p))) (hn1 : S.now ≤ 1000000) (hl : S.l0.length ≤ 100000)
    (hK : ∀ k, σ.n ≤ k → K (.tuple #[]) ((σ.set p (.comp (EpR { S with l0 := S.l0 ++ [x] } p))).up k)) :
    Fn Try.prog B 18 #[.pointer (some ⟨p, 0, none⟩), .int .i64 x] σ K := by
  refine Fn.opn hm is18 (by simp) fun vs τ hn O => ?_
  obtain ⟨v1, v2, v3, v4, rfl, o1, o2, o3, o4⟩ := O.own.four
  simp only at o1 o2 o3 o4
  obtain ⟨A2, c2, rfl, _⟩ := o2.is
  obtain ⟨A3, c3, rfl, _⟩ := o3.is
  obtain ⟨A4, c4, rfl, _⟩ := o4.is
  have hr := O.root
  simp only [epRoot_four] at hr
  have hpn := (O.wf.2 _ _ O.root).2
  have hj2 : (S.now : Int).tmod 3 = 0 := by rw [Int.tmod_eq_emod_of_nonneg (by omega)]; omega
  simp only [b18, Try.f18, Option.getD_some]
  simp -implicitDefEqProofs (disch := first | omega | (simp only [St.set_n, St.up_n, List.length_cons, List.length_nil]; omega)) only [go_sem, Nat.reduceAdd, Nat.reduceMul, Nat.reduceSub, Int.reduceAdd, Int.reduceMul, Int.reduceSub, Int.reduceNeg, Int.reduceToNat, hr, hj2]
  refine appO_one (O.new (.raw (.cells #[.int .i64 x] 3 (0, 0))) (k := τ.n + 1) (by omega)) 1 (b := τ.n) (s := 1) (bts := 8) (ty' := 3) (fz := (0, 0)) (ys := [.int .i64 x]) rfl rfl se28 kd28 zr3 rfl (by omega) (by simp -implicitDefEqProofs (disch := first | omega | (simp only [St.set_n, St.up_n, List.length_cons, List.length_nil]; omega)) only [go_sem, Nat.reduceAdd, Nat.reduceMul, Nat.reduceSub, Int.reduceAdd, Int.reduceMul, Int.reduceSub, Int.reduceNeg, Int.reduceToNat]) rfl rfl (by first | omega | (simp only; omega)) fun A' C' σ' hC' hp' hO hfr hn' => ?_
  have O1 := hO (epRoot S.now)
  simp only [List.set_cons_zero, List.set_cons_succ, epRoot_four, spEp] at O1 hp'
  simp -implicitDefEqProofs (disch := first | omega | (simp only [St.set_n, St.up_n, List.length_cons, List.length_nil]; omega)) only [go_sem, Nat.reduceAdd, Nat.reduceMul, Nat.reduceSub, Int.reduceAdd, Int.reduceMul, Int.reduceSub, Int.reduceNeg, Int.reduceToNat, hp']
  refine (O1.cast ?_).close hK
  simp [spEp, ints]
theorem ep_retire1 {S : ES} {p : Nat} {x : Int} (hj : S.now % 3 = 1) (hm : σ.m p = some (.comp (EpR S p))) (hn1 : S.now ≤ 1000000) (hl : S.l1.length ≤ 100000)
    (hK : ∀ k, σ.n ≤ k → K (.tuple #[]) ((σ.set p (.comp (EpR { S with l1 := S.l1 ++ [x] } p))).up k)) :
    Fn Try.prog B 18 #[.pointer (some ⟨p, 0, none⟩), .int .i64 x] σ K := by
  refine Fn.opn hm is18 (by simp) fun vs τ hn O => ?_
  obtain ⟨v1, v2, v3, v4, rfl, o1, o2, o3, o4⟩ := O.own.four
  simp only at o1 o2 o3 o4
  obtain ⟨A2, c2, rfl, _⟩ := o2.is
  obtain ⟨A3, c3, rfl, _⟩ := o3.is
  obtain ⟨A4, c4, rfl, _⟩ := o4.is
  have hr := O.root
  simp only [epRoot_four] at hr
  have hpn := (O.wf.2 _ _ O.root).2
  have hj2 : (S.now : Int).tmod 3 = 1 := by rw [Int.tmod_eq_emod_of_nonneg (by omega)]; omega
  simp only [b18, Try.f18, Option.getD_some]
  simp -implicitDefEqProofs (disch := first | omega | (simp only [St.set_n, St.up_n, List.length_cons, List.length_nil]; omega)) only [go_sem, Nat.reduceAdd, Nat.reduceMul, Nat.reduceSub, Int.reduceAdd, Int.reduceMul, Int.reduceSub, Int.reduceNeg, Int.reduceToNat, hr, hj2]
  refine appO_one (O.new (.raw (.cells #[.int .i64 x] 3 (0, 0))) (k := τ.n + 1) (by omega)) 2 (b := τ.n) (s := 1) (bts := 8) (ty' := 3) (fz := (0, 0)) (ys := [.int .i64 x]) rfl rfl se28 kd28 zr3 rfl (by omega) (by simp -implicitDefEqProofs (disch := first | omega | (simp only [St.set_n, St.up_n, List.length_cons, List.length_nil]; omega)) only [go_sem, Nat.reduceAdd, Nat.reduceMul, Nat.reduceSub, Int.reduceAdd, Int.reduceMul, Int.reduceSub, Int.reduceNeg, Int.reduceToNat]) rfl rfl (by first | omega | (simp only; omega)) fun A' C' σ' hC' hp' hO hfr hn' => ?_
  have O1 := hO (epRoot S.now)
  simp only [List.set_cons_zero, List.set_cons_succ, epRoot_four, spEp] at O1 hp'
  simp -implicitDefEqProofs (disch := first | omega | (simp only [St.set_n, St.up_n, List.length_cons, List.length_nil]; omega)) only [go_sem, Nat.reduceAdd, Nat.reduceMul, Nat.reduceSub, Int.reduceAdd, Int.reduceMul, Int.reduceSub, Int.reduceNeg, Int.reduceToNat, hp']
  refine (O1.cast ?_).close hK
  simp [spEp, ints]
theorem ep_retire2 {S : ES} {p : Nat} {x : Int} (hj : S.now % 3 = 2) (hm : σ.m p = some (.comp (EpR S p))) (hn1 : S.now ≤ 1000000) (hl : S.l2.length ≤ 100000)
    (hK : ∀ k, σ.n ≤ k → K (.tuple #[]) ((σ.set p (.comp (EpR { S with l2 := S.l2 ++ [x] } p))).up k)) :
    Fn Try.prog B 18 #[.pointer (some ⟨p, 0, none⟩), .int .i64 x] σ K := by
  refine Fn.opn hm is18 (by simp) fun vs τ hn O => ?_
  obtain ⟨v1, v2, v3, v4, rfl, o1, o2, o3, o4⟩ := O.own.four
  simp only at o1 o2 o3 o4
  obtain ⟨A2, c2, rfl, _⟩ := o2.is
  obtain ⟨A3, c3, rfl, _⟩ := o3.is
  obtain ⟨A4, c4, rfl, _⟩ := o4.is
  have hr := O.root
  simp only [epRoot_four] at hr
  have hpn := (O.wf.2 _ _ O.root).2
  have hj2 : (S.now : Int).tmod 3 = 2 := by rw [Int.tmod_eq_emod_of_nonneg (by omega)]; omega
  simp only [b18, Try.f18, Option.getD_some]
  simp -implicitDefEqProofs (disch := first | omega | (simp only [St.set_n, St.up_n, List.length_cons, List.length_nil]; omega)) only [go_sem, Nat.reduceAdd, Nat.reduceMul, Nat.reduceSub, Int.reduceAdd, Int.reduceMul, Int.reduceSub, Int.reduceNeg, Int.reduceToNat, hr, hj2]
  refine appO_one (O.new (.raw (.cells #[.int .i64 x] 3 (0, 0))) (k := τ.n + 1) (by omega)) 3 (b := τ.n) (s := 1) (bts := 8) (ty' := 3) (fz := (0, 0)) (ys := [.int .i64 x]) rfl rfl se28 kd28 zr3 rfl (by omega) (by simp -implicitDefEqProofs (disch := first | omega | (simp only [St.set_n, St.up_n, List.length_cons, List.length_nil]; omega)) only [go_sem, Nat.reduceAdd, Nat.reduceMul, Nat.reduceSub, Int.reduceAdd, Int.reduceMul, Int.reduceSub, Int.reduceNeg, Int.reduceToNat]) rfl rfl (by first | omega | (simp only; omega)) fun A' C' σ' hC' hp' hO hfr hn' => ?_
  have O1 := hO (epRoot S.now)
  simp only [List.set_cons_zero, List.set_cons_succ, epRoot_four, spEp] at O1 hp'
  simp -implicitDefEqProofs (disch := first | omega | (simp only [St.set_n, St.up_n, List.length_cons, List.length_nil]; omega)) only [go_sem, Nat.reduceAdd, Nat.reduceMul, Nat.reduceSub, Int.reduceAdd, Int.reduceMul, Int.reduceSub, Int.reduceNeg, Int.reduceToNat, hp']
  refine (O1.cast ?_).close hK
  simp [spEp, ints]
theorem ep_retire {S : ES} {p : Nat} {x : Int} (hm : σ.m p = some (.comp (EpR S p))) (hn1 : S.now ≤ 1000000) (h0 : S.l0.length ≤ 100000) (h1 : S.l1.length ≤ 100000) (h2 : S.l2.length ≤ 100000)
    (hK : ∀ k, σ.n ≤ k → K (.tuple #[]) ((σ.set p (.comp (EpR (S.put (S.now % 3) (S.get (S.now % 3) ++ [x])) p))).up k)) :
    Fn Try.prog B 18 #[.pointer (some ⟨p, 0, none⟩), .int .i64 x] σ K := by
  have h3 : S.now % 3 = 0 ∨ S.now % 3 = 1 ∨ S.now % 3 = 2 := by omega
  rcases h3 with h3 | h3 | h3 <;> rw [h3] at hK
  · exact ep_retire0 h3 hm hn1 h0 hK
  · exact ep_retire1 h3 hm hn1 h1 hK
  · exact ep_retire2 h3 hm hn1 h2 hK

/-! ### To advance -/
def late (now x : Int) : Bool := decide (0 ≤ x) && decide (x ≠ now)
theorem ep_late {p bx : Nat} {v a b d : Value} {now x : Int} (hb : σ.m bx = some (.raw (.cells #[.pointer (some ⟨p, 0, none⟩)] 24 (0, 0)))) (hr : σ.m p = some (.raw (.cells #[.int .i64 now, v, a, b, d] 98 (0, 0)))) (hK : K (.bool (late now x)) σ) :
    Fn Try.prog B 51 #[.int .i64 x, .pointer (some ⟨bx, 0, none⟩)] σ K := by
  refine Fn.of is51 (by simp) fun hwf => ?_
  simp only [b51, Try.f51, Option.getD_some]
  by_cases h : 0 ≤ x
  · simp -implicitDefEqProofs (disch := first | omega | (simp only [St.set_n, St.up_n, List.length_cons, List.length_nil]; omega)) only [go_sem, Nat.reduceAdd, Nat.reduceMul, Nat.reduceSub, Int.reduceAdd, Int.reduceMul, Int.reduceSub, Int.reduceNeg, Int.reduceToNat, h, hb, hr]
    simpa [late, h] using hK
  · simp -implicitDefEqProofs (disch := first | omega | (simp only [St.set_n, St.up_n, List.length_cons, List.length_nil]; omega)) only [go_sem, Nat.reduceAdd, Nat.reduceMul, Nat.reduceSub, Int.reduceAdd, Int.reduceMul, Int.reduceSub, Int.reduceNeg, Int.reduceToNat, h]
    simpa [late, h] using hK
structure Ix (A : Option Addr) (n c bx i : Nat) (e : Fr) : Prop where
  v0 : e.v 0 = .slice A n c
  v1 : e.v 1 = .func (.func 51) #[] #[.pointer (some ⟨bx, 0, none⟩)]
  v7 : e.v 7 = .int .i64 n
  v8 : e.v 8 = .int .i64 i
  d : e.d = []
theorem ep_index {p bx : Nat} {v a b d : Value} {now : Int} {pin : List Int} (hpl : pin.length ≤ 100000) (hb : σ.m bx = some (.raw (.cells #[.pointer (some ⟨p, 0, none⟩)] 24 (0, 0)))) (hr : σ.m p = some (.raw (.cells #[.int .i64 now, v, a, b, d] 98 (0, 0))))
    (ho : Own σ 3 1 (ints pin) pin.length v) (hK : ∀ r : Int, decide (0 ≤ r) = pin.any (late now) → K (.int .i64 r) σ) :
    Fn Try.prog B 69 #[v, .func (.func 51) #[] #[.pointer (some ⟨bx, 0, none⟩)]] σ K := by
  obtain ⟨A, c, rfl, hc⟩ := ho.is
  refine Fn.of is69 (by simp) fun hwf => ?_
  simp only [b69, Try.f69, Option.getD_some]
  simp -implicitDefEqProofs (disch := first | omega | (simp only [St.set_n, St.up_n, List.length_cons, List.length_nil]; omega)) only [go_sem, Nat.reduceAdd, Nat.reduceMul, Nat.reduceSub, Int.reduceAdd, Int.reduceMul, Int.reduceSub, Int.reduceNeg, Int.reduceToNat]
  refine loop_rule (fun m e s => ∃ i : Nat, m = pin.length - i ∧ i ≤ pin.length ∧ Ix A pin.length c bx i e ∧ s = σ ∧ ∀ j y, j < i → pin[j]? = some y → late now y = false) pin.length ?_ ?_
  · exact ⟨0, by omega, by omega, ⟨by simp -implicitDefEqProofs (disch := first | omega | (simp only [St.set_n, St.up_n, List.length_cons, List.length_nil]; omega)) only [go_sem, Nat.reduceAdd, Nat.reduceMul, Nat.reduceSub, Int.reduceAdd, Int.reduceMul, Int.reduceSub, Int.reduceNeg, Int.reduceToNat], by simp -implicitDefEqProofs (disch := first | omega | (simp only [St.set_n, St.up_n, List.length_cons, List.length_nil]; omega)) only [go_sem, Nat.reduceAdd, Nat.reduceMul, Nat.reduceSub, Int.reduceAdd, Int.reduceMul, Int.reduceSub, Int.reduceNeg, Int.reduceToNat], by simp -implicitDefEqProofs (disch := first | omega | (simp only [St.set_n, St.up_n, List.length_cons, List.length_nil]; omega)) only [go_sem, Nat.reduceAdd, Nat.reduceMul, Nat.reduceSub, Int.reduceAdd, Int.reduceMul, Int.reduceSub, Int.reduceNeg, Int.reduceToNat], by simp -implicitDefEqProofs (disch := first | omega | (simp only [St.set_n, St.up_n, List.length_cons, List.length_nil]; omega)) only [go_sem, Nat.reduceAdd, Nat.reduceMul, Nat.reduceSub, Int.reduceAdd, Int.reduceMul, Int.reduceSub, Int.reduceNeg, Int.reduceToNat]; rfl, by simp -implicitDefEqProofs (disch := first | omega | (simp only [St.set_n, St.up_n, List.length_cons, List.length_nil]; omega)) only [go_sem, Nat.reduceAdd, Nat.reduceMul, Nat.reduceSub, Int.reduceAdd, Int.reduceMul, Int.reduceSub, Int.reduceNeg, Int.reduceToNat]⟩, rfl, fun j y hj _ => by omega⟩
  · rintro m e s hws ⟨i, hm, hi, ⟨q0, q1, q7, q8, hd⟩, rfl, hall⟩
    by_cases hlt : (i : Int) < pin.length
    · obtain ⟨x, hx⟩ : ∃ x, pin[i]? = some x := ⟨pin[i]'(by omega), List.getElem?_eq_getElem (by omega)⟩
      obtain ⟨b1, c1, sp1, e1, _, m1, _, _⟩ := ho.has (by omega)
      cases e1
      have g1 : (ints pin ++ sp1)[i]? = some (.int .i64 x) := ints_get hx sp1
      simp -implicitDefEqProofs (disch := first | omega | (simp only [St.set_n, St.up_n, List.length_cons, List.length_nil]; omega)) only [go_sem, Nat.reduceAdd, Nat.reduceMul, Nat.reduceSub, Int.reduceAdd, Int.reduceMul, Int.reduceSub, Int.reduceNeg, Int.reduceToNat, q0, q1, q7, q8, hlt, m1, g1]
      refine callF_of (ep_late hb hr ?_)
      cases hl : late now x with
      | true =>
        simp -implicitDefEqProofs (disch := first | omega | (simp only [St.set_n, St.up_n, List.length_cons, List.length_nil]; omega)) only [go_sem, Nat.reduceAdd, Nat.reduceMul, Nat.reduceSub, Int.reduceAdd, Int.reduceMul, Int.reduceSub, Int.reduceNeg, Int.reduceToNat, hd]
        refine hK _ ?_
        have h1 : pin.any (late now) = true := List.any_eq_true.2 ⟨x, List.mem_of_getElem? hx, hl⟩
        rw [h1]; simp
      | false =>
        simp -implicitDefEqProofs (disch := first | omega | (simp only [St.set_n, St.up_n, List.length_cons, List.length_nil]; omega)) only [go_sem, Nat.reduceAdd, Nat.reduceMul, Nat.reduceSub, Int.reduceAdd, Int.reduceMul, Int.reduceSub, Int.reduceNeg, Int.reduceToNat, q8]
        refine ⟨pin.length - (i + 1), by omega, i + 1, rfl, by omega, ⟨by simp -implicitDefEqProofs (disch := first | omega | (simp only [St.set_n, St.up_n, List.length_cons, List.length_nil]; omega)) only [go_sem, Nat.reduceAdd, Nat.reduceMul, Nat.reduceSub, Int.reduceAdd, Int.reduceMul, Int.reduceSub, Int.reduceNeg, Int.reduceToNat, q0], by simp -implicitDefEqProofs (disch := first | omega | (simp only [St.set_n, St.up_n, List.length_cons, List.length_nil]; omega)) only [go_sem, Nat.reduceAdd, Nat.reduceMul, Nat.reduceSub, Int.reduceAdd, Int.reduceMul, Int.reduceSub, Int.reduceNeg, Int.reduceToNat, q1], by simp -implicitDefEqProofs (disch := first | omega | (simp only [St.set_n, St.up_n, List.length_cons, List.length_nil]; omega)) only [go_sem, Nat.reduceAdd, Nat.reduceMul, Nat.reduceSub, Int.reduceAdd, Int.reduceMul, Int.reduceSub, Int.reduceNeg, Int.reduceToNat, q7], by simp -implicitDefEqProofs (disch := first | omega | (simp only [St.set_n, St.up_n, List.length_cons, List.length_nil]; omega)) only [go_sem, Nat.reduceAdd, Nat.reduceMul, Nat.reduceSub, Int.reduceAdd, Int.reduceMul, Int.reduceSub, Int.reduceNeg, Int.reduceToNat]; simp, by simp -implicitDefEqProofs (disch := first | omega | (simp only [St.set_n, St.up_n, List.length_cons, List.length_nil]; omega)) only [go_sem, Nat.reduceAdd, Nat.reduceMul, Nat.reduceSub, Int.reduceAdd, Int.reduceMul, Int.reduceSub, Int.reduceNeg, Int.reduceToNat, hd]⟩, fun j y hj hy => ?_⟩
        by_cases hji : j = i
        · subst hji; rw [hx] at hy; cases hy; exact hl
        · exact hall j y (by omega) hy
    · simp -implicitDefEqProofs (disch := first | omega | (simp only [St.set_n, St.up_n, List.length_cons, List.length_nil]; omega)) only [go_sem, Nat.reduceAdd, Nat.reduceMul, Nat.reduceSub, Int.reduceAdd, Int.reduceMul, Int.reduceSub, Int.reduceNeg, Int.reduceToNat, q7, q8, hlt, hd]
      refine hK _ ?_
      have h1 : pin.any (late now) = false := by
        rw [List.any_eq_false]
        intro y hy
        obtain ⟨j, hj⟩ := List.getElem?_of_mem hy
        have := hall j y (by have := (List.getElem?_eq_some_iff.1 hj).1; omega) hj
        simp [this]
      rw [h1]; rfl
theorem ep_contains {p bx : Nat} {v a b d : Value} {now : Int} {pin : List Int} (hpl : pin.length ≤ 100000) (hb : σ.m bx = some (.raw (.cells #[.pointer (some ⟨p, 0, none⟩)] 24 (0, 0)))) (hr : σ.m p = some (.raw (.cells #[.int .i64 now, v, a, b, d] 98 (0, 0))))
    (ho : Own σ 3 1 (ints pin) pin.length v) (hK : K (.bool (pin.any (late now))) σ) : Fn Try.prog B 50 #[v, .func (.func 51) #[] #[.pointer (some ⟨bx, 0, none⟩)]] σ K := by
  refine Fn.of is50 (by simp) fun hwf => ?_
  simp only [b50, Try.f50, Option.getD_some]
  simp -implicitDefEqProofs (disch := first | omega | (simp only [St.set_n, St.up_n, List.length_cons, List.length_nil]; omega)) only [go_sem, Nat.reduceAdd, Nat.reduceMul, Nat.reduceSub, Int.reduceAdd, Int.reduceMul, Int.reduceSub, Int.reduceNeg, Int.reduceToNat]
  refine callF_of (ep_index hpl hb hr ho fun r hr' => ?_)
  simp -implicitDefEqProofs (disch := first | omega | (simp only [St.set_n, St.up_n, List.length_cons, List.length_nil]; omega)) only [go_sem, Nat.reduceAdd, Nat.reduceMul, Nat.reduceSub, Int.reduceAdd, Int.reduceMul, Int.reduceSub, Int.reduceNeg, Int.reduceToNat]
  rw [hr']; exact hK
theorem ep_advance_nil (hK : ∀ k, σ.n ≤ k → K (.tuple #[.slice none 0 0, .bool false]) (σ.up k)) : Fn Try.prog B 19 #[.pointer none] σ K := by
  refine Fn.of' is19 (by simp) fun hwf => ?_
  simp only [b19, Try.f19, Option.getD_some]
  simp -implicitDefEqProofs (disch := first | omega | (simp only [St.set_n, St.up_n, List.length_cons, List.length_nil]; omega)) only [go_sem, Nat.reduceAdd, Nat.reduceMul, Nat.reduceSub, Int.reduceAdd, Int.reduceMul, Int.reduceSub, Int.reduceNeg, Int.reduceToNat]
  exact ⟨_, To.same (fun d y h2 h3 => by simp -implicitDefEqProofs (disch := first | omega | (simp only [St.set_n, St.up_n, List.length_cons, List.length_nil]; omega)) only [go_sem, Nat.reduceAdd, Nat.reduceMul, Nat.reduceSub, Int.reduceAdd, Int.reduceMul, Int.reduceSub, Int.reduceNeg, Int.reduceToNat, h3]) hwf, hK _ (by simp only [St.up_n]; omega)⟩
theorem ep_advance_no {S : ES} {p : Nat} (hm : σ.m p = some (.comp (EpR S p))) (hpl : S.pin.length ≤ 100000) (ha : S.pin.any (late S.now) = true)
    (hK : ∀ k, σ.n ≤ k → K (.tuple #[.slice none 0 0, .bool false]) (σ.up k)) : Fn Try.prog B 19 #[.pointer (some ⟨p, 0, none⟩)] σ K := by
  refine Fn.opn hm is19 (by simp) fun vs τ hn O => ?_
  obtain ⟨v1, v2, v3, v4, rfl, o1, o2, o3, o4⟩ := O.own.four
  have O1 := O.new (.raw (.cells #[.pointer (some ⟨p, 0, none⟩)] 24 (0, 0))) (k := τ.n + 1) (by omega)
  have hpn := (O.wf.2 _ _ O.root).2
  have hr := O1.root
  obtain ⟨w1, w2, w3, w4, e0, o1', _⟩ := O1.own.four
  simp only [List.cons.injEq, and_true] at e0
  obtain ⟨rfl, rfl, rfl, rfl⟩ := e0
  simp only [epRoot_four] at hr
  have hr0 := O.root
  simp only [epRoot_four] at hr0
  simp only [b19, Try.f19, Option.getD_some]
  simp -implicitDefEqProofs (disch := first | omega | (simp only [St.set_n, St.up_n, List.length_cons, List.length_nil]; omega)) only [go_sem, Nat.reduceAdd, Nat.reduceMul, Nat.reduceSub, Int.reduceAdd, Int.reduceMul, Int.reduceSub, Int.reduceNeg, Int.reduceToNat, hr0]
  refine callF_of (ep_contains hpl (by simp -implicitDefEqProofs (disch := first | omega | (simp only [St.set_n, St.up_n, List.length_cons, List.length_nil]; omega)) only [go_sem, Nat.reduceAdd, Nat.reduceMul, Nat.reduceSub, Int.reduceAdd, Int.reduceMul, Int.reduceSub, Int.reduceNeg, Int.reduceToNat]) hr o1' ?_)
  rw [ha]
  simp -implicitDefEqProofs (disch := first | omega | (simp only [St.set_n, St.up_n, List.length_cons, List.length_nil]; omega)) only [go_sem, Nat.reduceAdd, Nat.reduceMul, Nat.reduceSub, Int.reduceAdd, Int.reduceMul, Int.reduceSub, Int.reduceNeg, Int.reduceToNat]
  exact O1.close' hm hK
theorem ep_advance0 {S : ES} {p : Nat} (hj : (S.now + 1) % 3 = 0) (hm : σ.m p = some (.comp (EpR S p))) (hn1 : S.now ≤ 1000000) (hpl : S.pin.length ≤ 100000) (ha : S.pin.any (late S.now) = false)
    (hK : ∀ v τ, Own τ 3 1 (ints S.l0) S.l0.length v → τ.m p = some (.comp (EpR { S with now := S.now + 1, l0 := [] } p)) → (∀ c x, c ≠ p → σ.m c = some x → τ.m c = some x ∧ blk v ≠ some c) → blk v ≠ some p → σ.n ≤ τ.n → (∀ b, blk v = some b → b < τ.n ∧ B.heap.size ≤ b) →
      K (.tuple #[v, .bool true]) τ) : Fn Try.prog B 19 #[.pointer (some ⟨p, 0, none⟩)] σ K := by
  refine Fn.opn hm is19 (by simp) fun vs τ hn O => ?_
  obtain ⟨v1, v2, v3, v4, rfl, o1, o2, o3, o4⟩ := O.own.four
  simp only at o1 o2 o3 o4
  obtain ⟨A2, c2, rfl, _⟩ := o2.is
  obtain ⟨A3, c3, rfl, _⟩ := o3.is
  obtain ⟨A4, c4, rfl, _⟩ := o4.is
  have O1 := O.new (.raw (.cells #[.pointer (some ⟨p, 0, none⟩)] 24 (0, 0))) (k := τ.n + 1) (by omega)
  have hpn := (O.wf.2 _ _ O.root).2
  have hr := O1.root
  obtain ⟨w1, w2, w3, w4, e0, o1', o2', o3', o4'⟩ := O1.own.four
  simp only [List.cons.injEq, and_true] at e0
  obtain ⟨rfl, rfl, rfl, rfl⟩ := e0
  simp only [epRoot_four] at hr
  have hr0 := O.root
  simp only [epRoot_four] at hr0
  have hj2 : ((S.now : Int) + 1).tmod 3 = 0 := by rw [Int.tmod_eq_emod_of_nonneg (by omega)]; omega
  simp only [b19, Try.f19, Option.getD_some]
  simp -implicitDefEqProofs (disch := first | omega | (simp only [St.set_n, St.up_n, List.length_cons, List.length_nil]; omega)) only [go_sem, Nat.reduceAdd, Nat.reduceMul, Nat.reduceSub, Int.reduceAdd, Int.reduceMul, Int.reduceSub, Int.reduceNeg, Int.reduceToNat, hr0]
  refine callF_of (ep_contains hpl (by simp -implicitDefEqProofs (disch := first | omega | (simp only [St.set_n, St.up_n, List.length_cons, List.length_nil]; omega)) only [go_sem, Nat.reduceAdd, Nat.reduceMul, Nat.reduceSub, Int.reduceAdd, Int.reduceMul, Int.reduceSub, Int.reduceNeg, Int.reduceToNat]) hr o1' ?_)
  rw [ha]
  simp -implicitDefEqProofs (disch := first | omega | (simp only [St.set_n, St.up_n, List.length_cons, List.length_nil]; omega)) only [go_sem, Nat.reduceAdd, Nat.reduceMul, Nat.reduceSub, Int.reduceAdd, Int.reduceMul, Int.reduceSub, Int.reduceNeg, Int.reduceToNat, hr0, hj2]
  refine effD_cut (by kernel_rfl) ?_
  simp -implicitDefEqProofs (disch := first | omega | (simp only [St.set_n, St.up_n, List.length_cons, List.length_nil]; omega)) only [go_sem, Nat.reduceAdd, Nat.reduceMul, Nat.reduceSub, Int.reduceAdd, Int.reduceMul, Int.reduceSub, Int.reduceNeg, Int.reduceToNat, hr0, hj2]
  have O2 := O1.tr (i := 1) (x' := ⟨3, 1, ints [], 0⟩) (v' := .slice none 0 0) rfl rfl Own.nil (fun b h => by cases h) (epRoot (S.now + 1))
  simp only [List.set_cons_zero, List.set_cons_succ, epRoot_four] at O2
  obtain ⟨σ'', hto, hp2, hn2, hk2⟩ := (O2.cast (sp' := spEp { S with now := S.now + 1, l0 := [] }) (by simp [spEp])).leave
  have hap := O1.apart
  simp only [Apart, DisL] at hap
  have hv := O1.apart.off.get (i := 1) rfl
  refine ⟨σ'', ?_, hK _ σ'' (o2'.keepR fun b o hb ho => ?_) hp2 (fun c x hc hx => ?_) hv (by rw [hn2]; simp only [St.set_n, St.up_n]; omega) (fun b hb => ?_)⟩
  · simpa using hto
  · refine hk2 b _ (fun e => hv (by rw [← e]; exact hb)) (by rw [St.set_m_ne _ _ fun e => hv (by rw [← e]; exact hb)]; exact ho) ?_
    refine .of fun u hu hbu => ?_
    obtain ⟨jj, hjj⟩ := List.getElem?_of_mem hu
    by_cases e : jj = 1
    · subst e; cases hjj; cases hbu
    · have hjj2 : ([v1, Value.slice A2 S.l0.length c2, .slice A3 S.l1.length c3, .slice A4 S.l2.length c4] : List Value)[jj]? = some u := by
        rcases jj with _ | _ | _ | _ | jj <;> first | exact absurd rfl e | exact hjj
      exact O1.apart.dis (Ne.symm e) (i := 1) rfl hjj2 b hb hbu
  · obtain ⟨h1, h2⟩ := O1.fr c x hc hx
    obtain ⟨h3, h4⟩ := O2.fr c x hc hx
    exact ⟨hk2 c x hc h3 h4, h2.get (i := 1) rfl⟩
  · obtain ⟨o, ho⟩ := o2'.at_ hb
    have := O1.wf.2 _ _ ho
    simp only [St.up_n] at this
    rw [hn2]; simp only [St.set_n, St.up_n]; omega
theorem ep_advance1 {S : ES} {p : Nat} (hj : (S.now + 1) % 3 = 1) (hm : σ.m p = some (.comp (EpR S p))) (hn1 : S.now ≤ 1000000) (hpl : S.pin.length ≤ 100000) (ha : S.pin.any (late S.now) = false)
    (hK : ∀ v τ, Own τ 3 1 (ints S.l1) S.l1.length v → τ.m p = some (.comp (EpR { S with now := S.now + 1, l1 := [] } p)) → (∀ c x, c ≠ p → σ.m c = some x → τ.m c = some x ∧ blk v ≠ some c) → blk v ≠ some p → σ.n ≤ τ.n → (∀ b, blk v = some b → b < τ.n ∧ B.heap.size ≤ b) →
      K (.tuple #[v, .bool true]) τ) : Fn Try.prog B 19 #[.pointer (some ⟨p, 0, none⟩)] σ K := by
  refine Fn.opn hm is19 (by simp) fun vs τ hn O => ?_
  obtain ⟨v1, v2, v3, v4, rfl, o1, o2, o3, o4⟩ := O.own.four
  simp only at o1 o2 o3 o4
  obtain ⟨A2, c2, rfl, _⟩ := o2.is
  obtain ⟨A3, c3, rfl, _⟩ := o3.is
  obtain ⟨A4, c4, rfl, _⟩ := o4.is
  have O1 := O.new (.raw (.cells #[.pointer (some ⟨p, 0, none⟩)] 24 (0, 0))) (k := τ.n + 1) (by omega)
  have hpn := (O.wf.2 _ _ O.root).2
  have hr := O1.root
  obtain ⟨w1, w2, w3, w4, e0, o1', o2', o3', o4'⟩ := O1.own.four
  simp only [List.cons.injEq, and_true] at e0
  obtain ⟨rfl, rfl, rfl, rfl⟩ := e0
  simp only [epRoot_four] at hr
  have hr0 := O.root
  simp only [epRoot_four] at hr0
  have hj2 : ((S.now : Int) + 1).tmod 3 = 1 := by rw [Int.tmod_eq_emod_of_nonneg (by omega)]; omega
  simp only [b19, Try.f19, Option.getD_some]
  simp -implicitDefEqProofs (disch := first | omega | (simp only [St.set_n, St.up_n, List.length_cons, List.length_nil]; omega)) only [go_sem, Nat.reduceAdd, Nat.reduceMul, Nat.reduceSub, Int.reduceAdd, Int.reduceMul, Int.reduceSub, Int.reduceNeg, Int.reduceToNat, hr0]
  refine callF_of (ep_contains hpl (by simp -implicitDefEqProofs (disch := first | omega | (simp only [St.set_n, St.up_n, List.length_cons, List.length_nil]; omega)) only [go_sem, Nat.reduceAdd, Nat.reduceMul, Nat.reduceSub, Int.reduceAdd, Int.reduceMul, Int.reduceSub, Int.reduceNeg, Int.reduceToNat]) hr o1' ?_)
  rw [ha]
  simp -implicitDefEqProofs (disch := first | omega | (simp only [St.set_n, St.up_n, List.length_cons, List.length_nil]; omega)) only [go_sem, Nat.reduceAdd, Nat.reduceMul, Nat.reduceSub, Int.reduceAdd, Int.reduceMul, Int.reduceSub, Int.reduceNeg, Int.reduceToNat, hr0, hj2]
  refine effD_cut (by kernel_rfl) ?_
  simp -implicitDefEqProofs (disch := first | omega | (simp only [St.set_n, St.up_n, List.length_cons, List.length_nil]; omega)) only [go_sem, Nat.reduceAdd, Nat.reduceMul, Nat.reduceSub, Int.reduceAdd, Int.reduceMul, Int.reduceSub, Int.reduceNeg, Int.reduceToNat, hr0, hj2]
  have O2 := O1.tr (i := 2) (x' := ⟨3, 1, ints [], 0⟩) (v' := .slice none 0 0) rfl rfl Own.nil (fun b h => by cases h) (epRoot (S.now + 1))
  simp only [List.set_cons_zero, List.set_cons_succ, epRoot_four] at O2
  obtain ⟨σ'', hto, hp2, hn2, hk2⟩ := (O2.cast (sp' := spEp { S with now := S.now + 1, l1 := [] }) (by simp [spEp])).leave
  have hap := O1.apart
  simp only [Apart, DisL] at hap
  have hv := O1.apart.off.get (i := 2) rfl
  refine ⟨σ'', ?_, hK _ σ'' (o3'.keepR fun b o hb ho => ?_) hp2 (fun c x hc hx => ?_) hv (by rw [hn2]; simp only [St.set_n, St.up_n]; omega) (fun b hb => ?_)⟩
  · simpa using hto
  · refine hk2 b _ (fun e => hv (by rw [← e]; exact hb)) (by rw [St.set_m_ne _ _ fun e => hv (by rw [← e]; exact hb)]; exact ho) ?_
    refine .of fun u hu hbu => ?_
    obtain ⟨jj, hjj⟩ := List.getElem?_of_mem hu
    by_cases e : jj = 2
    · subst e; cases hjj; cases hbu
    · have hjj2 : ([v1, Value.slice A2 S.l0.length c2, .slice A3 S.l1.length c3, .slice A4 S.l2.length c4] : List Value)[jj]? = some u := by
        rcases jj with _ | _ | _ | _ | jj <;> first | exact absurd rfl e | exact hjj
      exact O1.apart.dis (Ne.symm e) (i := 2) rfl hjj2 b hb hbu
  · obtain ⟨h1, h2⟩ := O1.fr c x hc hx
    obtain ⟨h3, h4⟩ := O2.fr c x hc hx
    exact ⟨hk2 c x hc h3 h4, h2.get (i := 2) rfl⟩
  · obtain ⟨o, ho⟩ := o3'.at_ hb
    have := O1.wf.2 _ _ ho
    simp only [St.up_n] at this
    rw [hn2]; simp only [St.set_n, St.up_n]; omega
theorem ep_advance2 {S : ES} {p : Nat} (hj : (S.now + 1) % 3 = 2) (hm : σ.m p = some (.comp (EpR S p))) (hn1 : S.now ≤ 1000000) (hpl : S.pin.length ≤ 100000) (ha : S.pin.any (late S.now) = false)
    (hK : ∀ v τ, Own τ 3 1 (ints S.l2) S.l2.length v → τ.m p = some (.comp (EpR { S with now := S.now + 1, l2 := [] } p)) → (∀ c x, c ≠ p → σ.m c = some x → τ.m c = some x ∧ blk v ≠ some c) → blk v ≠ some p → σ.n ≤ τ.n → (∀ b, blk v = some b → b < τ.n ∧ B.heap.size ≤ b) →
      K (.tuple #[v, .bool true]) τ) : Fn Try.prog B 19 #[.pointer (some ⟨p, 0, none⟩)] σ K := by
  refine Fn.opn hm is19 (by simp) fun vs τ hn O => ?_
  obtain ⟨v1, v2, v3, v4, rfl, o1, o2, o3, o4⟩ := O.own.four
  simp only at o1 o2 o3 o4
  obtain ⟨A2, c2, rfl, _⟩ := o2.is
  obtain ⟨A3, c3, rfl, _⟩ := o3.is
  obtain ⟨A4, c4, rfl, _⟩ := o4.is
  have O1 := O.new (.raw (.cells #[.pointer (some ⟨p, 0, none⟩)] 24 (0, 0))) (k := τ.n + 1) (by omega)
  have hpn := (O.wf.2 _ _ O.root).2
  have hr := O1.root
  obtain ⟨w1, w2, w3, w4, e0, o1', o2', o3', o4'⟩ := O1.own.four
  simp only [List.cons.injEq, and_true] at e0
  obtain ⟨rfl, rfl, rfl, rfl⟩ := e0
  simp only [epRoot_four] at hr
  have hr0 := O.root
  simp only [epRoot_four] at hr0
  have hj2 : ((S.now : Int) + 1).tmod 3 = 2 := by rw [Int.tmod_eq_emod_of_nonneg (by omega)]; omega
  simp only [b19, Try.f19, Option.getD_some]
  simp -implicitDefEqProofs (disch := first | omega | (simp only [St.set_n, St.up_n, List.length_cons, List.length_nil]; omega)) only [go_sem, Nat.reduceAdd, Nat.reduceMul, Nat.reduceSub, Int.reduceAdd, Int.reduceMul, Int.reduceSub, Int.reduceNeg, Int.reduceToNat, hr0]
  refine callF_of (ep_contains hpl (by simp -implicitDefEqProofs (disch := first | omega | (simp only [St.set_n, St.up_n, List.length_cons, List.length_nil]; omega)) only [go_sem, Nat.reduceAdd, Nat.reduceMul, Nat.reduceSub, Int.reduceAdd, Int.reduceMul, Int.reduceSub, Int.reduceNeg, Int.reduceToNat]) hr o1' ?_)
  rw [ha]
  simp -implicitDefEqProofs (disch := first | omega | (simp only [St.set_n, St.up_n, List.length_cons, List.length_nil]; omega)) only [go_sem, Nat.reduceAdd, Nat.reduceMul, Nat.reduceSub, Int.reduceAdd, Int.reduceMul, Int.reduceSub, Int.reduceNeg, Int.reduceToNat, hr0, hj2]
  refine effD_cut (by kernel_rfl) ?_
  simp -implicitDefEqProofs (disch := first | omega | (simp only [St.set_n, St.up_n, List.length_cons, List.length_nil]; omega)) only [go_sem, Nat.reduceAdd, Nat.reduceMul, Nat.reduceSub, Int.reduceAdd, Int.reduceMul, Int.reduceSub, Int.reduceNeg, Int.reduceToNat, hr0, hj2]
  have O2 := O1.tr (i := 3) (x' := ⟨3, 1, ints [], 0⟩) (v' := .slice none 0 0) rfl rfl Own.nil (fun b h => by cases h) (epRoot (S.now + 1))
  simp only [List.set_cons_zero, List.set_cons_succ, epRoot_four] at O2
  obtain ⟨σ'', hto, hp2, hn2, hk2⟩ := (O2.cast (sp' := spEp { S with now := S.now + 1, l2 := [] }) (by simp [spEp])).leave
  have hap := O1.apart
  simp only [Apart, DisL] at hap
  have hv := O1.apart.off.get (i := 3) rfl
  refine ⟨σ'', ?_, hK _ σ'' (o4'.keepR fun b o hb ho => ?_) hp2 (fun c x hc hx => ?_) hv (by rw [hn2]; simp only [St.set_n, St.up_n]; omega) (fun b hb => ?_)⟩
  · simpa using hto
  · refine hk2 b _ (fun e => hv (by rw [← e]; exact hb)) (by rw [St.set_m_ne _ _ fun e => hv (by rw [← e]; exact hb)]; exact ho) ?_
    refine .of fun u hu hbu => ?_
    obtain ⟨jj, hjj⟩ := List.getElem?_of_mem hu
    by_cases e : jj = 3
    · subst e; cases hjj; cases hbu
    · have hjj2 : ([v1, Value.slice A2 S.l0.length c2, .slice A3 S.l1.length c3, .slice A4 S.l2.length c4] : List Value)[jj]? = some u := by
        rcases jj with _ | _ | _ | _ | jj <;> first | exact absurd rfl e | exact hjj
      exact O1.apart.dis (Ne.symm e) (i := 3) rfl hjj2 b hb hbu
  · obtain ⟨h1, h2⟩ := O1.fr c x hc hx
    obtain ⟨h3, h4⟩ := O2.fr c x hc hx
    exact ⟨hk2 c x hc h3 h4, h2.get (i := 3) rfl⟩
  · obtain ⟨o, ho⟩ := o4'.at_ hb
    have := O1.wf.2 _ _ ho
    simp only [St.up_n] at this
    rw [hn2]; simp only [St.set_n, St.up_n]; omega
theorem ep_advance {S : ES} {p : Nat} (hm : σ.m p = some (.comp (EpR S p))) (hn1 : S.now ≤ 1000000) (hpl : S.pin.length ≤ 100000) (ha : S.pin.any (late S.now) = false)
    (hK : ∀ v τ, Own τ 3 1 (ints (S.get ((S.now + 1) % 3))) (S.get ((S.now + 1) % 3)).length v → τ.m p = some (.comp (EpR ({ S with now := S.now + 1 }.put ((S.now + 1) % 3) []) p)) → (∀ c x, c ≠ p → σ.m c = some x → τ.m c = some x ∧ blk v ≠ some c) → blk v ≠ some p → σ.n ≤ τ.n → (∀ b, blk v = some b → b < τ.n ∧ B.heap.size ≤ b) →
      K (.tuple #[v, .bool true]) τ) : Fn Try.prog B 19 #[.pointer (some ⟨p, 0, none⟩)] σ K := by
  have h3 : (S.now + 1) % 3 = 0 ∨ (S.now + 1) % 3 = 1 ∨ (S.now + 1) % 3 = 2 := by omega
  rcases h3 with h3 | h3 | h3 <;> rw [h3] at hK
  · exact ep_advance0 h3 hm hn1 hpl ha hK
  · exact ep_advance1 h3 hm hn1 hpl ha hK
  · exact ep_advance2 h3 hm hn1 hpl ha hK
structure Wt (A0 A1 A2 : Option Addr) (n0 c0 n1 c1 n2 c2 i : Nat) (n : Int) (e : Fr) : Prop where
  v3 : e.v 3 = .int .i64 n
  v11 : e.v 11 = .agg #[.slice A0 n0 c0, .slice A1 n1 c1, .slice A2 n2 c2]
  v12 : e.v 12 = .int .i64 i
  d : e.d = []
theorem ep_waiting {S : ES} {p : Nat} (hm : σ.m p = some (.comp (EpR S p))) (h0 : S.l0.length ≤ 100000) (h1 : S.l1.length ≤ 100000) (h2 : S.l2.length ≤ 100000)
    (hK : ∀ k, σ.n ≤ k → K (.int .i64 ((S.l0.length : Int) + S.l1.length + S.l2.length)) (σ.up k)) : Fn Try.prog B 20 #[.pointer (some ⟨p, 0, none⟩)] σ K := by
  refine Fn.opn hm is20 (by simp) fun vs τ hn O => ?_
  obtain ⟨v1, v2, v3, v4, rfl, o1, o2, o3, o4⟩ := O.own.four
  simp only at o1 o2 o3 o4
  obtain ⟨A2, c2, rfl, _⟩ := o2.is
  obtain ⟨A3, c3, rfl, _⟩ := o3.is
  obtain ⟨A4, c4, rfl, _⟩ := o4.is
  have hr := O.root
  simp only [epRoot_four] at hr
  simp only [b20, Try.f20, Option.getD_some]
  simp -implicitDefEqProofs (disch := first | omega | (simp only [St.set_n, St.up_n, List.length_cons, List.length_nil]; omega)) only [go_sem, Nat.reduceAdd, Nat.reduceMul, Nat.reduceSub, Int.reduceAdd, Int.reduceMul, Int.reduceSub, Int.reduceNeg, Int.reduceToNat, hr]
  refine loop_rule (fun m e s => ∃ i : Nat, m = 3 - i ∧ i ≤ 3 ∧ Wt A2 A3 A4 S.l0.length c2 S.l1.length c3 S.l2.length c4 i (if i = 0 then 0 else if i = 1 then (S.l0.length : Int) else if i = 2 then (S.l0.length : Int) + S.l1.length else (S.l0.length : Int) + S.l1.length + S.l2.length) e ∧ s = τ) 3 ?_ ?_
  · exact ⟨0, by omega, by omega, ⟨by simp -implicitDefEqProofs (disch := first | omega | (simp only [St.set_n, St.up_n, List.length_cons, List.length_nil]; omega)) only [go_sem, Nat.reduceAdd, Nat.reduceMul, Nat.reduceSub, Int.reduceAdd, Int.reduceMul, Int.reduceSub, Int.reduceNeg, Int.reduceToNat], by simp -implicitDefEqProofs (disch := first | omega | (simp only [St.set_n, St.up_n, List.length_cons, List.length_nil]; omega)) only [go_sem, Nat.reduceAdd, Nat.reduceMul, Nat.reduceSub, Int.reduceAdd, Int.reduceMul, Int.reduceSub, Int.reduceNeg, Int.reduceToNat], by simp -implicitDefEqProofs (disch := first | omega | (simp only [St.set_n, St.up_n, List.length_cons, List.length_nil]; omega)) only [go_sem, Nat.reduceAdd, Nat.reduceMul, Nat.reduceSub, Int.reduceAdd, Int.reduceMul, Int.reduceSub, Int.reduceNeg, Int.reduceToNat]; rfl, by simp -implicitDefEqProofs (disch := first | omega | (simp only [St.set_n, St.up_n, List.length_cons, List.length_nil]; omega)) only [go_sem, Nat.reduceAdd, Nat.reduceMul, Nat.reduceSub, Int.reduceAdd, Int.reduceMul, Int.reduceSub, Int.reduceNeg, Int.reduceToNat]⟩, rfl⟩
  · rintro m e s hws ⟨i, hmm, hi, ⟨q3, q11, q12, hd⟩, rfl⟩
    have hi4 : i = 0 ∨ i = 1 ∨ i = 2 ∨ i = 3 := by omega
    rcases hi4 with rfl | rfl | rfl | rfl
    · simp only [if_true] at q3
      have e1 : ((0 : Nat) : Int) = 0 := rfl
      rw [e1] at q12
      simp -implicitDefEqProofs (disch := first | omega | (simp only [St.set_n, St.up_n, List.length_cons, List.length_nil]; omega)) only [go_sem, Nat.reduceAdd, Nat.reduceMul, Nat.reduceSub, Int.reduceAdd, Int.reduceMul, Int.reduceSub, Int.reduceNeg, Int.reduceToNat, q3, q11, q12]
      refine ⟨2, by omega, 1, rfl, by omega, ⟨(by first | (simp -implicitDefEqProofs (disch := first | omega | (simp only [St.set_n, St.up_n, List.length_cons, List.length_nil]; omega)) only [go_sem, Nat.reduceAdd, Nat.reduceMul, Nat.reduceSub, Int.reduceAdd, Int.reduceMul, Int.reduceSub, Int.reduceNeg, Int.reduceToNat]; done) | (simp -implicitDefEqProofs (disch := first | omega | (simp only [St.set_n, St.up_n, List.length_cons, List.length_nil]; omega)) only [go_sem, Nat.reduceAdd, Nat.reduceMul, Nat.reduceSub, Int.reduceAdd, Int.reduceMul, Int.reduceSub, Int.reduceNeg, Int.reduceToNat]; rfl) | (simp -implicitDefEqProofs (disch := first | omega | (simp only [St.set_n, St.up_n, List.length_cons, List.length_nil]; omega)) only [go_sem, Nat.reduceAdd, Nat.reduceMul, Nat.reduceSub, Int.reduceAdd, Int.reduceMul, Int.reduceSub, Int.reduceNeg, Int.reduceToNat]; simp)), by simp -implicitDefEqProofs (disch := first | omega | (simp only [St.set_n, St.up_n, List.length_cons, List.length_nil]; omega)) only [go_sem, Nat.reduceAdd, Nat.reduceMul, Nat.reduceSub, Int.reduceAdd, Int.reduceMul, Int.reduceSub, Int.reduceNeg, Int.reduceToNat, q11], (by first | (simp -implicitDefEqProofs (disch := first | omega | (simp only [St.set_n, St.up_n, List.length_cons, List.length_nil]; omega)) only [go_sem, Nat.reduceAdd, Nat.reduceMul, Nat.reduceSub, Int.reduceAdd, Int.reduceMul, Int.reduceSub, Int.reduceNeg, Int.reduceToNat]; done) | (simp -implicitDefEqProofs (disch := first | omega | (simp only [St.set_n, St.up_n, List.length_cons, List.length_nil]; omega)) only [go_sem, Nat.reduceAdd, Nat.reduceMul, Nat.reduceSub, Int.reduceAdd, Int.reduceMul, Int.reduceSub, Int.reduceNeg, Int.reduceToNat]; rfl) | (simp -implicitDefEqProofs (disch := first | omega | (simp only [St.set_n, St.up_n, List.length_cons, List.length_nil]; omega)) only [go_sem, Nat.reduceAdd, Nat.reduceMul, Nat.reduceSub, Int.reduceAdd, Int.reduceMul, Int.reduceSub, Int.reduceNeg, Int.reduceToNat]; simp)), by simp -implicitDefEqProofs (disch := first | omega | (simp only [St.set_n, St.up_n, List.length_cons, List.length_nil]; omega)) only [go_sem, Nat.reduceAdd, Nat.reduceMul, Nat.reduceSub, Int.reduceAdd, Int.reduceMul, Int.reduceSub, Int.reduceNeg, Int.reduceToNat, hd]⟩⟩
    · simp only [Nat.one_ne_zero, if_true, if_false] at q3
      have e1 : ((1 : Nat) : Int) = 1 := rfl
      have e2 : (1 : Int).toNat = 1 := rfl
      rw [e1] at q12
      simp -implicitDefEqProofs (disch := first | omega | (simp only [St.set_n, St.up_n, List.length_cons, List.length_nil]; omega)) only [go_sem, Nat.reduceAdd, Nat.reduceMul, Nat.reduceSub, Int.reduceAdd, Int.reduceMul, Int.reduceSub, Int.reduceNeg, Int.reduceToNat, q3, q11, q12, e2]
      refine ⟨1, by omega, 2, rfl, by omega, ⟨(by first | (simp -implicitDefEqProofs (disch := first | omega | (simp only [St.set_n, St.up_n, List.length_cons, List.length_nil]; omega)) only [go_sem, Nat.reduceAdd, Nat.reduceMul, Nat.reduceSub, Int.reduceAdd, Int.reduceMul, Int.reduceSub, Int.reduceNeg, Int.reduceToNat]; done) | (simp -implicitDefEqProofs (disch := first | omega | (simp only [St.set_n, St.up_n, List.length_cons, List.length_nil]; omega)) only [go_sem, Nat.reduceAdd, Nat.reduceMul, Nat.reduceSub, Int.reduceAdd, Int.reduceMul, Int.reduceSub, Int.reduceNeg, Int.reduceToNat]; rfl) | (simp -implicitDefEqProofs (disch := first | omega | (simp only [St.set_n, St.up_n, List.length_cons, List.length_nil]; omega)) only [go_sem, Nat.reduceAdd, Nat.reduceMul, Nat.reduceSub, Int.reduceAdd, Int.reduceMul, Int.reduceSub, Int.reduceNeg, Int.reduceToNat]; simp)), by simp -implicitDefEqProofs (disch := first | omega | (simp only [St.set_n, St.up_n, List.length_cons, List.length_nil]; omega)) only [go_sem, Nat.reduceAdd, Nat.reduceMul, Nat.reduceSub, Int.reduceAdd, Int.reduceMul, Int.reduceSub, Int.reduceNeg, Int.reduceToNat, q11], (by first | (simp -implicitDefEqProofs (disch := first | omega | (simp only [St.set_n, St.up_n, List.length_cons, List.length_nil]; omega)) only [go_sem, Nat.reduceAdd, Nat.reduceMul, Nat.reduceSub, Int.reduceAdd, Int.reduceMul, Int.reduceSub, Int.reduceNeg, Int.reduceToNat]; done) | (simp -implicitDefEqProofs (disch := first | omega | (simp only [St.set_n, St.up_n, List.length_cons, List.length_nil]; omega)) only [go_sem, Nat.reduceAdd, Nat.reduceMul, Nat.reduceSub, Int.reduceAdd, Int.reduceMul, Int.reduceSub, Int.reduceNeg, Int.reduceToNat]; rfl) | (simp -implicitDefEqProofs (disch := first | omega | (simp only [St.set_n, St.up_n, List.length_cons, List.length_nil]; omega)) only [go_sem, Nat.reduceAdd, Nat.reduceMul, Nat.reduceSub, Int.reduceAdd, Int.reduceMul, Int.reduceSub, Int.reduceNeg, Int.reduceToNat]; simp)), by simp -implicitDefEqProofs (disch := first | omega | (simp only [St.set_n, St.up_n, List.length_cons, List.length_nil]; omega)) only [go_sem, Nat.reduceAdd, Nat.reduceMul, Nat.reduceSub, Int.reduceAdd, Int.reduceMul, Int.reduceSub, Int.reduceNeg, Int.reduceToNat, hd]⟩⟩
    · have e3 : ¬ (2 : Nat) = 1 := by omega
      have e5 : ¬ (2 : Nat) = 0 := by omega
      simp only [e5, e3, if_true, if_false] at q3
      have e1 : ((2 : Nat) : Int) = 2 := rfl
      have e2 : (2 : Int).toNat = 2 := rfl
      rw [e1] at q12
      simp -implicitDefEqProofs (disch := first | omega | (simp only [St.set_n, St.up_n, List.length_cons, List.length_nil]; omega)) only [go_sem, Nat.reduceAdd, Nat.reduceMul, Nat.reduceSub, Int.reduceAdd, Int.reduceMul, Int.reduceSub, Int.reduceNeg, Int.reduceToNat, q3, q11, q12, e2]
      refine ⟨0, by omega, 3, rfl, by omega, ⟨(by first | (simp -implicitDefEqProofs (disch := first | omega | (simp only [St.set_n, St.up_n, List.length_cons, List.length_nil]; omega)) only [go_sem, Nat.reduceAdd, Nat.reduceMul, Nat.reduceSub, Int.reduceAdd, Int.reduceMul, Int.reduceSub, Int.reduceNeg, Int.reduceToNat]; done) | (simp -implicitDefEqProofs (disch := first | omega | (simp only [St.set_n, St.up_n, List.length_cons, List.length_nil]; omega)) only [go_sem, Nat.reduceAdd, Nat.reduceMul, Nat.reduceSub, Int.reduceAdd, Int.reduceMul, Int.reduceSub, Int.reduceNeg, Int.reduceToNat]; rfl) | (simp -implicitDefEqProofs (disch := first | omega | (simp only [St.set_n, St.up_n, List.length_cons, List.length_nil]; omega)) only [go_sem, Nat.reduceAdd, Nat.reduceMul, Nat.reduceSub, Int.reduceAdd, Int.reduceMul, Int.reduceSub, Int.reduceNeg, Int.reduceToNat]; simp)), by simp -implicitDefEqProofs (disch := first | omega | (simp only [St.set_n, St.up_n, List.length_cons, List.length_nil]; omega)) only [go_sem, Nat.reduceAdd, Nat.reduceMul, Nat.reduceSub, Int.reduceAdd, Int.reduceMul, Int.reduceSub, Int.reduceNeg, Int.reduceToNat, q11], (by first | (simp -implicitDefEqProofs (disch := first | omega | (simp only [St.set_n, St.up_n, List.length_cons, List.length_nil]; omega)) only [go_sem, Nat.reduceAdd, Nat.reduceMul, Nat.reduceSub, Int.reduceAdd, Int.reduceMul, Int.reduceSub, Int.reduceNeg, Int.reduceToNat]; done) | (simp -implicitDefEqProofs (disch := first | omega | (simp only [St.set_n, St.up_n, List.length_cons, List.length_nil]; omega)) only [go_sem, Nat.reduceAdd, Nat.reduceMul, Nat.reduceSub, Int.reduceAdd, Int.reduceMul, Int.reduceSub, Int.reduceNeg, Int.reduceToNat]; rfl) | (simp -implicitDefEqProofs (disch := first | omega | (simp only [St.set_n, St.up_n, List.length_cons, List.length_nil]; omega)) only [go_sem, Nat.reduceAdd, Nat.reduceMul, Nat.reduceSub, Int.reduceAdd, Int.reduceMul, Int.reduceSub, Int.reduceNeg, Int.reduceToNat]; simp)), by simp -implicitDefEqProofs (disch := first | omega | (simp only [St.set_n, St.up_n, List.length_cons, List.length_nil]; omega)) only [go_sem, Nat.reduceAdd, Nat.reduceMul, Nat.reduceSub, Int.reduceAdd, Int.reduceMul, Int.reduceSub, Int.reduceNeg, Int.reduceToNat, hd]⟩⟩
    · have e3 : ¬ (3 : Nat) = 1 := by omega
      have e4 : ¬ (3 : Nat) = 2 := by omega
      have e5 : ¬ (3 : Nat) = 0 := by omega
      simp only [e5, e3, e4, if_true, if_false] at q3
      have e1 : ((3 : Nat) : Int) = 3 := rfl
      rw [e1] at q12
      simp -implicitDefEqProofs (disch := first | omega | (simp only [St.set_n, St.up_n, List.length_cons, List.length_nil]; omega)) only [go_sem, Nat.reduceAdd, Nat.reduceMul, Nat.reduceSub, Int.reduceAdd, Int.reduceMul, Int.reduceSub, Int.reduceNeg, Int.reduceToNat, q3, q11, q12, hd]
      exact O.close' hm hK
structure Nw (p n i : Nat) (e : Fr) : Prop where
  v3 : e.v 3 = .pointer (some ⟨p, 0, none⟩)
  v8 : e.v 8 = .int .i64 n
  v9 : e.v 9 = .int .i64 i
  d : e.d = []
theorem ep_new {th : Int} {n : Nat} (hn : max (min th 64) 0 = (n : Int)) (hK : ∀ k, σ.n < k → K (.pointer (some ⟨σ.n, 0, none⟩)) ((σ.set σ.n (.comp (EpR { now := 0, pin := List.replicate n (-1), l0 := [], l1 := [], l2 := [] } σ.n))).up k)) : Fn Try.prog B 13 #[.int .i64 th] σ K := by
  refine Fn.of' is13 (by simp) fun hwf => ?_
  simp only [b13, Try.f13, Option.getD_some]
  simp -implicitDefEqProofs (disch := first | omega | (simp only [St.set_n, St.up_n, List.length_cons, List.length_nil]; omega)) only [go_sem, Nat.reduceAdd, Nat.reduceMul, Nat.reduceSub, Int.reduceAdd, Int.reduceMul, Int.reduceSub, Int.reduceNeg, Int.reduceToNat, hn]
  refine loop_rule (fun m e s => ∃ (i : Nat) (vs : List Value), m = n - i ∧ i ≤ n ∧ Nw σ.n n i e ∧ Opn B σ s σ.n 98 (epRoot 0) (spEp { now := 0, pin := List.replicate i (-1), l0 := [], l1 := [], l2 := [] }) vs ∧ σ.n < s.n) n ?_ ?_
  · refine ⟨0, [.slice none 0 0, .slice none 0 0, .slice none 0 0, .slice none 0 0], by omega, by omega, ⟨by simp -implicitDefEqProofs (disch := first | omega | (simp only [St.set_n, St.up_n, List.length_cons, List.length_nil]; omega)) only [go_sem, Nat.reduceAdd, Nat.reduceMul, Nat.reduceSub, Int.reduceAdd, Int.reduceMul, Int.reduceSub, Int.reduceNeg, Int.reduceToNat], by simp -implicitDefEqProofs (disch := first | omega | (simp only [St.set_n, St.up_n, List.length_cons, List.length_nil]; omega)) only [go_sem, Nat.reduceAdd, Nat.reduceMul, Nat.reduceSub, Int.reduceAdd, Int.reduceMul, Int.reduceSub, Int.reduceNeg, Int.reduceToNat], by simp -implicitDefEqProofs (disch := first | omega | (simp only [St.set_n, St.up_n, List.length_cons, List.length_nil]; omega)) only [go_sem, Nat.reduceAdd, Nat.reduceMul, Nat.reduceSub, Int.reduceAdd, Int.reduceMul, Int.reduceSub, Int.reduceNeg, Int.reduceToNat]; rfl, by simp -implicitDefEqProofs (disch := first | omega | (simp only [St.set_n, St.up_n, List.length_cons, List.length_nil]; omega)) only [go_sem, Nat.reduceAdd, Nat.reduceMul, Nat.reduceSub, Int.reduceAdd, Int.reduceMul, Int.reduceSub, Int.reduceNeg, Int.reduceToNat]⟩, ⟨?_, by simp -implicitDefEqProofs (disch := first | omega | (simp only [St.set_n, St.up_n, List.length_cons, List.length_nil]; omega)) only [go_sem, Nat.reduceAdd, Nat.reduceMul, Nat.reduceSub, Int.reduceAdd, Int.reduceMul, Int.reduceSub, Int.reduceNeg, Int.reduceToNat]; rfl, ⟨Own.nil, Own.nil, Own.nil, Own.nil, trivial⟩, by simp -implicitDefEqProofs (disch := first | omega | (simp only [St.set_n, St.up_n, List.length_cons, List.length_nil]; omega)) only [go_sem, Nat.reduceAdd, Nat.reduceMul, Nat.reduceSub, Int.reduceAdd, Int.reduceMul, Int.reduceSub, Int.reduceNeg, Int.reduceToNat], fun c x hc hx => ⟨by simp -implicitDefEqProofs (disch := first | omega | (simp only [St.set_n, St.up_n, List.length_cons, List.length_nil]; omega)) only [go_sem, Nat.reduceAdd, Nat.reduceMul, Nat.reduceSub, Int.reduceAdd, Int.reduceMul, Int.reduceSub, Int.reduceNeg, Int.reduceToNat, hx], by simp -implicitDefEqProofs (disch := first | omega | (simp only [St.set_n, St.up_n, List.length_cons, List.length_nil]; omega)) only [go_sem, Nat.reduceAdd, Nat.reduceMul, Nat.reduceSub, Int.reduceAdd, Int.reduceMul, Int.reduceSub, Int.reduceNeg, Int.reduceToNat]⟩, by simp -implicitDefEqProofs (disch := first | omega | (simp only [St.set_n, St.up_n, List.length_cons, List.length_nil]; omega)) only [go_sem, Nat.reduceAdd, Nat.reduceMul, Nat.reduceSub, Int.reduceAdd, Int.reduceMul, Int.reduceSub, Int.reduceNeg, Int.reduceToNat]; omega⟩, by simp -implicitDefEqProofs (disch := first | omega | (simp only [St.set_n, St.up_n, List.length_cons, List.length_nil]; omega)) only [go_sem, Nat.reduceAdd, Nat.reduceMul, Nat.reduceSub, Int.reduceAdd, Int.reduceMul, Int.reduceSub, Int.reduceNeg, Int.reduceToNat]; omega⟩
    refine ⟨by have := hwf.1; simp -implicitDefEqProofs (disch := first | omega | (simp only [St.set_n, St.up_n, List.length_cons, List.length_nil]; omega)) only [go_sem, Nat.reduceAdd, Nat.reduceMul, Nat.reduceSub, Int.reduceAdd, Int.reduceMul, Int.reduceSub, Int.reduceNeg, Int.reduceToNat]; omega, fun b x hb => ?_⟩
    simp only [St.up_m] at hb
    have := hwf.1
    by_cases e : b = σ.n
    · subst e; simp -implicitDefEqProofs (disch := first | omega | (simp only [St.set_n, St.up_n, List.length_cons, List.length_nil]; omega)) only [go_sem, Nat.reduceAdd, Nat.reduceMul, Nat.reduceSub, Int.reduceAdd, Int.reduceMul, Int.reduceSub, Int.reduceNeg, Int.reduceToNat]; omega
    · rw [St.set_m_ne _ _ e] at hb
      have := hwf.2 b x hb
      simp -implicitDefEqProofs (disch := first | omega | (simp only [St.set_n, St.up_n, List.length_cons, List.length_nil]; omega)) only [go_sem, Nat.reduceAdd, Nat.reduceMul, Nat.reduceSub, Int.reduceAdd, Int.reduceMul, Int.reduceSub, Int.reduceNeg, Int.reduceToNat]; omega
  · rintro m e s hws ⟨i, vs, hm, hi, ⟨q3, q8, q9, hd⟩, O, hsn⟩
    obtain ⟨v1, v2, v3, v4, rfl, o1, o2, o3, o4⟩ := O.own.four
    simp only [List.length_replicate, List.length_nil] at o1 o2 o3 o4
    have hr := O.root
    simp only [epRoot_four] at hr
    by_cases hlt : (i : Int) < n
    · simp -implicitDefEqProofs (disch := first | omega | (simp only [St.set_n, St.up_n, List.length_cons, List.length_nil]; omega)) only [go_sem, Nat.reduceAdd, Nat.reduceMul, Nat.reduceSub, Int.reduceAdd, Int.reduceMul, Int.reduceSub, Int.reduceNeg, Int.reduceToNat, q3, q8, q9, hlt, hr]
      refine appO_one (O.new (.raw (.cells #[.int .i64 (-1)] 3 (0, 0))) (k := s.n + 1) (by omega)) 0 (b := s.n) (s := 1) (bts := 8) (ty' := 3) (fz := (0, 0)) (ys := [.int .i64 (-1)]) rfl rfl se28 kd28 zr3 rfl (by omega) (by simp -implicitDefEqProofs (disch := first | omega | (simp only [St.set_n, St.up_n, List.length_cons, List.length_nil]; omega)) only [go_sem, Nat.reduceAdd, Nat.reduceMul, Nat.reduceSub, Int.reduceAdd, Int.reduceMul, Int.reduceSub, Int.reduceNeg, Int.reduceToNat]) rfl rfl (by simp only [List.length_replicate]; omega) fun A' C' σ' hC' hp' hO hfr hn' => ?_
      have O1 := hO (epRoot 0)
      simp only [List.set_cons_zero, List.set_cons_succ, epRoot_four, spEp, List.length_replicate] at O1 hp'
      simp -implicitDefEqProofs (disch := first | omega | (simp only [St.set_n, St.up_n, List.length_cons, List.length_nil]; omega)) only [go_sem, Nat.reduceAdd, Nat.reduceMul, Nat.reduceSub, Int.reduceAdd, Int.reduceMul, Int.reduceSub, Int.reduceNeg, Int.reduceToNat, hp', q3, q9]
      simp only [List.length_replicate]
      refine ⟨n - (i + 1), by omega, i + 1, _, rfl, by omega, ⟨by simp -implicitDefEqProofs (disch := first | omega | (simp only [St.set_n, St.up_n, List.length_cons, List.length_nil]; omega)) only [go_sem, Nat.reduceAdd, Nat.reduceMul, Nat.reduceSub, Int.reduceAdd, Int.reduceMul, Int.reduceSub, Int.reduceNeg, Int.reduceToNat, q3], by simp -implicitDefEqProofs (disch := first | omega | (simp only [St.set_n, St.up_n, List.length_cons, List.length_nil]; omega)) only [go_sem, Nat.reduceAdd, Nat.reduceMul, Nat.reduceSub, Int.reduceAdd, Int.reduceMul, Int.reduceSub, Int.reduceNeg, Int.reduceToNat, q8], by simp -implicitDefEqProofs (disch := first | omega | (simp only [St.set_n, St.up_n, List.length_cons, List.length_nil]; omega)) only [go_sem, Nat.reduceAdd, Nat.reduceMul, Nat.reduceSub, Int.reduceAdd, Int.reduceMul, Int.reduceSub, Int.reduceNeg, Int.reduceToNat]; simp, by simp -implicitDefEqProofs (disch := first | omega | (simp only [St.set_n, St.up_n, List.length_cons, List.length_nil]; omega)) only [go_sem, Nat.reduceAdd, Nat.reduceMul, Nat.reduceSub, Int.reduceAdd, Int.reduceMul, Int.reduceSub, Int.reduceNeg, Int.reduceToNat, hd]⟩, O1.cast ?_, by simp only [St.set_n, St.up_n] at *; omega⟩
      have : List.replicate (i + 1) (-1 : Int) = List.replicate i (-1) ++ [-1] := List.replicate_succ'
      simp [spEp, ints, this]
    · have : i = n := by omega
      subst this
      simp -implicitDefEqProofs (disch := first | omega | (simp only [St.set_n, St.up_n, List.length_cons, List.length_nil]; omega)) only [go_sem, Nat.reduceAdd, Nat.reduceMul, Nat.reduceSub, Int.reduceAdd, Int.reduceMul, Int.reduceSub, Int.reduceNeg, Int.reduceToNat, q3, q8, q9, hlt, hd]
      exact ⟨_, To.closeO _ O.root O.own O.apart O.fr, hK _ hsn⟩
end
end Go.Proofs.Ytgcojbgkenndhaa
