/- The document's own epochs: contracts, by walks. -/
import Derived.Test.YtgcojbgkenndhaaEpoch
namespace Go.Proofs.Ytgcojbgkenndhaa
set_option linter.unusedSimpArgs false
set_option linter.unusedVariables false
set_option maxRecDepth 100000
open Go Go.RowKit
section
variable {B : World} {σ : St} {K : Value → St → Prop}

/-- The document's epochs in memory: 'Z' is what waits, each with its epoch. -/
structure IsER (σ : St) (p : Nat) (w1 w2 w3 : Value) (now : Int) (pin : List Int) (Z : List (Int × Int)) : Prop where
  root : σ.m p = some (.raw (.cells #[.int .i64 now, w1, w2, w3] 43 (0, 0)))
  o1 : Own σ 3 1 (ints pin) pin.length w1
  o2 : Own σ 3 1 (ints (Z.map fun z => z.1)) Z.length w2
  o3 : Own σ 3 1 (ints (Z.map fun z => z.2)) Z.length w3
  d12 : Dis w1 w2
  d13 : Dis w1 w3
  d23 : Dis w2 w3
  n1 : blk w1 ≠ some p
  n2 : blk w2 ≠ some p
  n3 : blk w3 ≠ some p
def Foot (p : Nat) (w1 w2 w3 : Value) (c : Nat) : Prop := c = p ∨ blk w1 = some c ∨ blk w2 = some c ∨ blk w3 = some c
theorem IsER.keep {τ : St} {p : Nat} {w1 w2 w3 : Value} {now : Int} {pin : List Int} {Z : List (Int × Int)} (h : IsER σ p w1 w2 w3 now pin Z) (hk : ∀ c x, Foot p w1 w2 w3 c → σ.m c = some x → τ.m c = some x) : IsER τ p w1 w2 w3 now pin Z :=
  ⟨hk _ _ (.inl rfl) h.root, h.o1.keepR fun b o hb ho => hk b _ (.inr (.inl hb)) ho, h.o2.keepR fun b o hb ho => hk b _ (.inr (.inr (.inl hb))) ho, h.o3.keepR fun b o hb ho => hk b _ (.inr (.inr (.inr hb))) ho, h.d12, h.d13, h.d23, h.n1, h.n2, h.n3⟩
theorem er_is {p : Nat} {w1 w2 w3 : Value} {now t : Int} {pin : List Int} {Z : List (Int × Int)} (h : IsER σ p w1 w2 w3 now pin Z) (hK : K (.bool (isPin pin t)) σ) :
    Fn Try.prog B 28 #[.pointer (some ⟨p, 0, none⟩), .int .i64 t] σ K := by
  have hr := h.root
  obtain ⟨A, c, rfl, hc⟩ := h.o1.is
  refine Fn.of is28 (by simp) fun hwf => ?_
  simp only [b28, Try.f28, Option.getD_some]
  by_cases h0 : 0 ≤ t
  · by_cases h1 : t < pin.length
    · obtain ⟨i, rfl⟩ : ∃ i : Nat, t = (i : Int) := ⟨t.toNat, by omega⟩
      obtain ⟨x, hx⟩ : ∃ x, pin[i]? = some x := ⟨pin[i]'(by omega), List.getElem?_eq_getElem (by omega)⟩
      obtain ⟨b1, c1, sp1, e1, _, m1, _, _⟩ := h.o1.has (by omega)
      cases e1
      have g1 : (ints pin ++ sp1)[i]? = some (.int .i64 x) := ints_get hx sp1
      have hin : 0 ≤ (i : Int) ∧ (i : Int) < pin.length := ⟨h0, h1⟩
      simp -implicitDefEqProofs (disch := first | omega | (simp only [St.set_n, St.up_n, List.length_cons, List.length_nil]; omega)) only [go_sem, Nat.reduceAdd, Nat.reduceMul, Nat.reduceSub, Int.reduceAdd, Int.reduceMul, Int.reduceSub, Int.reduceNeg, Int.reduceToNat, hr, h0, h1, m1, g1]
      simpa [isPin, hin, List.getD, hx] using hK
    · have hin : ¬ (0 ≤ t ∧ t < pin.length) := fun h => h1 h.2
      simp -implicitDefEqProofs (disch := first | omega | (simp only [St.set_n, St.up_n, List.length_cons, List.length_nil]; omega)) only [go_sem, Nat.reduceAdd, Nat.reduceMul, Nat.reduceSub, Int.reduceAdd, Int.reduceMul, Int.reduceSub, Int.reduceNeg, Int.reduceToNat, hr, h0, h1]
      simpa [isPin, hin] using hK
  · have hin : ¬ (0 ≤ t ∧ t < pin.length) := fun h => h0 h.1
    simp -implicitDefEqProofs (disch := first | omega | (simp only [St.set_n, St.up_n, List.length_cons, List.length_nil]; omega)) only [go_sem, Nat.reduceAdd, Nat.reduceMul, Nat.reduceSub, Int.reduceAdd, Int.reduceMul, Int.reduceSub, Int.reduceNeg, Int.reduceToNat, hr, h0]
    simpa [isPin, hin] using hK
theorem IsER.setPin {p b i cap : Nat} {w2 w3 : Value} {now x : Int} {pin : List Int} {Z : List (Int × Int)} {sp : List Value} (h : IsER σ p (.slice (some ⟨b, 0, none⟩) pin.length cap) w2 w3 now pin Z) (hc : pin.length ≤ cap) (hl : (ints pin ++ sp).length = cap * 1) :
    IsER (σ.set b (.raw (.cells (ints (pin.set i x) ++ sp).toArray 3 (0, 0)))) p (.slice (some ⟨b, 0, none⟩) pin.length cap) w2 w3 now (pin.set i x) Z := by
  have hb : b ≠ p := fun e => h.n1 (by simp [blk, e])
  refine ⟨by have := h.root; simp -implicitDefEqProofs (disch := first | omega | (simp only [St.set_n, St.up_n, List.length_cons, List.length_nil]; omega)) only [go_sem, Nat.reduceAdd, Nat.reduceMul, Nat.reduceSub, Int.reduceAdd, Int.reduceMul, Int.reduceSub, Int.reduceNeg, Int.reduceToNat, this], ?_, h.o2.keepR fun c o hc ho => ?_, h.o3.keepR fun c o hc ho => ?_, h.d12, h.d13, h.d23, h.n1, h.n2, h.n3⟩
  · rw [List.length_set]
    exact Own.of' (sp := sp) (by simp -implicitDefEqProofs (disch := first | omega | (simp only [St.set_n, St.up_n, List.length_cons, List.length_nil]; omega)) only [go_sem, Nat.reduceAdd, Nat.reduceMul, Nat.reduceSub, Int.reduceAdd, Int.reduceMul, Int.reduceSub, Int.reduceNeg, Int.reduceToNat]) (by simp [ints]) hc (by simpa [ints] using hl)
  · have : c ≠ b := fun e => h.d12 b rfl (e ▸ hc)
    simp -implicitDefEqProofs (disch := first | omega | (simp only [St.set_n, St.up_n, List.length_cons, List.length_nil]; omega)) only [go_sem, Nat.reduceAdd, Nat.reduceMul, Nat.reduceSub, Int.reduceAdd, Int.reduceMul, Int.reduceSub, Int.reduceNeg, Int.reduceToNat, ho]
  · have : c ≠ b := fun e => h.d13 b rfl (e ▸ hc)
    simp -implicitDefEqProofs (disch := first | omega | (simp only [St.set_n, St.up_n, List.length_cons, List.length_nil]; omega)) only [go_sem, Nat.reduceAdd, Nat.reduceMul, Nat.reduceSub, Int.reduceAdd, Int.reduceMul, Int.reduceSub, Int.reduceNeg, Int.reduceToNat, ho]
theorem er_pin {p : Nat} {w1 w2 w3 : Value} {now t : Int} {pin : List Int} {Z : List (Int × Int)} (h : IsER σ p w1 w2 w3 now pin Z)
    (hK : ∀ τ, IsER τ p w1 w2 w3 now (if 0 ≤ t ∧ t < pin.length ∧ isPin pin t = false then pin.set t.toNat now else pin) Z → τ.n = σ.n → (∀ c y, ¬ Foot p w1 w2 w3 c → σ.m c = some y → τ.m c = some y) → K (.bool (decide (0 ≤ t ∧ t < pin.length) && !isPin pin t)) τ) :
    Fn Try.prog B 22 #[.pointer (some ⟨p, 0, none⟩), .int .i64 t] σ K := by
  have hr := h.root
  obtain ⟨A, c, rfl, hc⟩ := h.o1.is
  refine Fn.of is22 (by simp) fun hwf => ?_
  simp only [b22, Try.f22, Option.getD_some]
  by_cases h0 : t < 0
  · have hin : ¬ (0 ≤ t ∧ t < pin.length) := by omega
    simp -implicitDefEqProofs (disch := first | omega | (simp only [St.set_n, St.up_n, List.length_cons, List.length_nil]; omega)) only [go_sem, Nat.reduceAdd, Nat.reduceMul, Nat.reduceSub, Int.reduceAdd, Int.reduceMul, Int.reduceSub, Int.reduceNeg, Int.reduceToNat, h0]
    rw [if_neg (fun h => hin ⟨h.1, h.2.1⟩)] at hK
    simpa [hin] using hK σ h rfl fun c y _ hy => hy
  by_cases h1 : (pin.length : Int) ≤ t
  · have hin : ¬ (0 ≤ t ∧ t < pin.length) := by omega
    simp -implicitDefEqProofs (disch := first | omega | (simp only [St.set_n, St.up_n, List.length_cons, List.length_nil]; omega)) only [go_sem, Nat.reduceAdd, Nat.reduceMul, Nat.reduceSub, Int.reduceAdd, Int.reduceMul, Int.reduceSub, Int.reduceNeg, Int.reduceToNat, hr, h0, h1]
    rw [if_neg (fun h => hin ⟨h.1, h.2.1⟩)] at hK
    simpa [hin] using hK σ h rfl fun c y _ hy => hy
  have hin : 0 ≤ t ∧ t < pin.length := by omega
  simp -implicitDefEqProofs (disch := first | omega | (simp only [St.set_n, St.up_n, List.length_cons, List.length_nil]; omega)) only [go_sem, Nat.reduceAdd, Nat.reduceMul, Nat.reduceSub, Int.reduceAdd, Int.reduceMul, Int.reduceSub, Int.reduceNeg, Int.reduceToNat, hr, h0, h1]
  refine callF_of (er_is h ?_)
  cases hp : isPin pin t with
  | true =>
    simp -implicitDefEqProofs (disch := first | omega | (simp only [St.set_n, St.up_n, List.length_cons, List.length_nil]; omega)) only [go_sem, Nat.reduceAdd, Nat.reduceMul, Nat.reduceSub, Int.reduceAdd, Int.reduceMul, Int.reduceSub, Int.reduceNeg, Int.reduceToNat]
    rw [hp, if_neg (by simp)] at hK
    simpa using hK σ h rfl fun c y _ hy => hy
  | false =>
    obtain ⟨i, rfl⟩ : ∃ i : Nat, t = (i : Int) := ⟨t.toNat, by omega⟩
    obtain ⟨b1, c1, sp1, e1, hc1, m1, l1, _⟩ := h.o1.has (by omega)
    cases e1
    have s1 := ints_set (l := pin) (i := i) sp1 (by omega) now
    rw [hp, if_pos ⟨hin.1, hin.2, rfl⟩] at hK
    simp -implicitDefEqProofs (disch := first | omega | (simp only [St.set_n, St.up_n, List.length_cons, List.length_nil]; omega)) only [go_sem, Nat.reduceAdd, Nat.reduceMul, Nat.reduceSub, Int.reduceAdd, Int.reduceMul, Int.reduceSub, Int.reduceNeg, Int.reduceToNat, hr, hin, m1, l1, s1]
    refine effD_cut (by kernel_rfl) ?_
    simp -implicitDefEqProofs (disch := first | omega | (simp only [St.set_n, St.up_n, List.length_cons, List.length_nil]; omega)) only [go_sem, Nat.reduceAdd, Nat.reduceMul, Nat.reduceSub, Int.reduceAdd, Int.reduceMul, Int.reduceSub, Int.reduceNeg, Int.reduceToNat, hr, hin, m1, l1, s1]
    have hd : (decide (0 ≤ (i : Int) ∧ (i : Int) < pin.length) && !false) = true := by simp [hin]
    rw [hd] at hK
    refine hK _ (h.setPin hc1 l1) rfl fun c y hc hy => ?_
    have : c ≠ b1 := fun e => hc (.inr (.inl (by simp [blk, e])))
    simp -implicitDefEqProofs (disch := first | omega | (simp only [St.set_n, St.up_n, List.length_cons, List.length_nil]; omega)) only [go_sem, Nat.reduceAdd, Nat.reduceMul, Nat.reduceSub, Int.reduceAdd, Int.reduceMul, Int.reduceSub, Int.reduceNeg, Int.reduceToNat, hy]
theorem er_unpin {p : Nat} {w1 w2 w3 : Value} {now t : Int} {pin : List Int} {Z : List (Int × Int)} (h : IsER σ p w1 w2 w3 now pin Z)
    (hK : ∀ τ, IsER τ p w1 w2 w3 now (if isPin pin t = true then pin.set t.toNat (-1) else pin) Z → τ.n = σ.n → (∀ c y, ¬ Foot p w1 w2 w3 c → σ.m c = some y → τ.m c = some y) → K (.bool (isPin pin t)) τ) :
    Fn Try.prog B 23 #[.pointer (some ⟨p, 0, none⟩), .int .i64 t] σ K := by
  have hr := h.root
  obtain ⟨A, c, rfl, hc⟩ := h.o1.is
  refine Fn.of is23 (by simp) fun hwf => ?_
  simp only [b23, Try.f23, Option.getD_some]
  simp -implicitDefEqProofs (disch := first | omega | (simp only [St.set_n, St.up_n, List.length_cons, List.length_nil]; omega)) only [go_sem, Nat.reduceAdd, Nat.reduceMul, Nat.reduceSub, Int.reduceAdd, Int.reduceMul, Int.reduceSub, Int.reduceNeg, Int.reduceToNat]
  refine callF_of (er_is h ?_)
  cases hp : isPin pin t with
  | false =>
    rw [hp, if_neg (by simp)] at hK
    simp -implicitDefEqProofs (disch := first | omega | (simp only [St.set_n, St.up_n, List.length_cons, List.length_nil]; omega)) only [go_sem, Nat.reduceAdd, Nat.reduceMul, Nat.reduceSub, Int.reduceAdd, Int.reduceMul, Int.reduceSub, Int.reduceNeg, Int.reduceToNat]
    exact hK σ h rfl fun c y _ hy => hy
  | true =>
    have hin : 0 ≤ t ∧ t < pin.length := by
      simp only [isPin, Bool.and_eq_true, decide_eq_true_eq] at hp
      exact hp.1
    obtain ⟨i, rfl⟩ : ∃ i : Nat, t = (i : Int) := ⟨t.toNat, by omega⟩
    obtain ⟨b1, c1, sp1, e1, hc1, m1, l1, _⟩ := h.o1.has (by omega)
    cases e1
    have s1 := ints_set (l := pin) (i := i) sp1 (by omega) (-1)
    rw [hp, if_pos rfl] at hK
    simp -implicitDefEqProofs (disch := first | omega | (simp only [St.set_n, St.up_n, List.length_cons, List.length_nil]; omega)) only [go_sem, Nat.reduceAdd, Nat.reduceMul, Nat.reduceSub, Int.reduceAdd, Int.reduceMul, Int.reduceSub, Int.reduceNeg, Int.reduceToNat, hr, hin, m1, l1, s1]
    refine hK _ (h.setPin hc1 l1) rfl fun c y hc hy => ?_
    have : c ≠ b1 := fun e => hc (.inr (.inl (by simp [blk, e])))
    simp -implicitDefEqProofs (disch := first | omega | (simp only [St.set_n, St.up_n, List.length_cons, List.length_nil]; omega)) only [go_sem, Nat.reduceAdd, Nat.reduceMul, Nat.reduceSub, Int.reduceAdd, Int.reduceMul, Int.reduceSub, Int.reduceNeg, Int.reduceToNat, hy]
structure Nr (p n i : Nat) (th : Int) (e : Fr) : Prop where
  v0 : e.v 0 = .int .i64 th
  v3 : e.v 3 = .pointer (some ⟨p, 0, none⟩)
  v4 : e.v 4 = .int .i64 i
  d : e.d = []
theorem er_new {th : Int} {n : Nat} (hn : max (min th 64) 0 = (n : Int)) (hK : ∀ τ w1, IsER τ σ.n w1 (.slice none 0 0) (.slice none 0 0) 0 (List.replicate n (-1)) [] → (∀ c x, c < σ.n → σ.m c = some x → τ.m c = some x) → (∀ b, blk w1 = some b → σ.n < b) → σ.n < τ.n → K (.pointer (some ⟨σ.n, 0, none⟩)) τ) : Fn Try.prog B 21 #[.int .i64 th] σ K := by
  refine Fn.of is21 (by simp) fun hwf => ?_
  simp only [b21, Try.f21, Option.getD_some]
  simp -implicitDefEqProofs (disch := first | omega | (simp only [St.set_n, St.up_n, List.length_cons, List.length_nil]; omega)) only [go_sem, Nat.reduceAdd, Nat.reduceMul, Nat.reduceSub, Int.reduceAdd, Int.reduceMul, Int.reduceSub, Int.reduceNeg, Int.reduceToNat]
  refine loop_rule (fun m e s => ∃ (i : Nat) (w1 : Value), m = n - i ∧ i ≤ n ∧ Nr σ.n n i th e ∧ IsER s σ.n w1 (.slice none 0 0) (.slice none 0 0) 0 (List.replicate i (-1)) [] ∧ (∀ c x, c < σ.n → σ.m c = some x → s.m c = some x) ∧ (∀ b, blk w1 = some b → σ.n < b) ∧ σ.n < s.n) n ?_ ?_
  · refine ⟨0, .slice none 0 0, by omega, by omega, ⟨by simp -implicitDefEqProofs (disch := first | omega | (simp only [St.set_n, St.up_n, List.length_cons, List.length_nil]; omega)) only [go_sem, Nat.reduceAdd, Nat.reduceMul, Nat.reduceSub, Int.reduceAdd, Int.reduceMul, Int.reduceSub, Int.reduceNeg, Int.reduceToNat], by simp -implicitDefEqProofs (disch := first | omega | (simp only [St.set_n, St.up_n, List.length_cons, List.length_nil]; omega)) only [go_sem, Nat.reduceAdd, Nat.reduceMul, Nat.reduceSub, Int.reduceAdd, Int.reduceMul, Int.reduceSub, Int.reduceNeg, Int.reduceToNat], by simp -implicitDefEqProofs (disch := first | omega | (simp only [St.set_n, St.up_n, List.length_cons, List.length_nil]; omega)) only [go_sem, Nat.reduceAdd, Nat.reduceMul, Nat.reduceSub, Int.reduceAdd, Int.reduceMul, Int.reduceSub, Int.reduceNeg, Int.reduceToNat]; rfl, by simp -implicitDefEqProofs (disch := first | omega | (simp only [St.set_n, St.up_n, List.length_cons, List.length_nil]; omega)) only [go_sem, Nat.reduceAdd, Nat.reduceMul, Nat.reduceSub, Int.reduceAdd, Int.reduceMul, Int.reduceSub, Int.reduceNeg, Int.reduceToNat]⟩, ⟨by simp -implicitDefEqProofs (disch := first | omega | (simp only [St.set_n, St.up_n, List.length_cons, List.length_nil]; omega)) only [go_sem, Nat.reduceAdd, Nat.reduceMul, Nat.reduceSub, Int.reduceAdd, Int.reduceMul, Int.reduceSub, Int.reduceNeg, Int.reduceToNat], Own.nil, Own.nil, Own.nil, fun b hb => (by cases hb), fun b hb => (by cases hb), fun b hb => (by cases hb), by simp [blk], by simp [blk], by simp [blk]⟩, fun c x hc hx => by simp -implicitDefEqProofs (disch := first | omega | (simp only [St.set_n, St.up_n, List.length_cons, List.length_nil]; omega)) only [go_sem, Nat.reduceAdd, Nat.reduceMul, Nat.reduceSub, Int.reduceAdd, Int.reduceMul, Int.reduceSub, Int.reduceNeg, Int.reduceToNat, hx], fun b hb => (by cases hb), by simp -implicitDefEqProofs (disch := first | omega | (simp only [St.set_n, St.up_n, List.length_cons, List.length_nil]; omega)) only [go_sem, Nat.reduceAdd, Nat.reduceMul, Nat.reduceSub, Int.reduceAdd, Int.reduceMul, Int.reduceSub, Int.reduceNeg, Int.reduceToNat]; omega⟩
  · rintro m e s hws ⟨i, w1, hm, hi, ⟨q0, q3, q4, hd⟩, hE, hold, hw1, hsn⟩
    have hr := hE.root
    by_cases hlt : (i : Int) < n
    · have h1 : (i : Int) < th := by omega
      have h2 : (i : Int) < 64 := by omega
      simp -implicitDefEqProofs (disch := first | omega | (simp only [St.set_n, St.up_n, List.length_cons, List.length_nil]; omega)) only [go_sem, Nat.reduceAdd, Nat.reduceMul, Nat.reduceSub, Int.reduceAdd, Int.reduceMul, Int.reduceSub, Int.reduceNeg, Int.reduceToNat, q0, q3, q4, h1, h2, hr]
      refine appF_one (sz := 1) (bts := 8) (cs := ints (List.replicate i (-1))) (ys := [.int .i64 (-1)]) hws hE.o1 se28 kd28 zr3 rfl (by omega) rfl rfl (by simp only [List.length_replicate]; omega) fun A' C' t1 hC' o1' hw1' hk1 hm1 hb1 hn1 => ?_
      simp only [List.length_replicate] at hC' o1' hk1 hb1
      have hr1 := hm1 _ _ hr hE.n1
      simp -implicitDefEqProofs (disch := first | omega | (simp only [St.set_n, St.up_n, List.length_cons, List.length_nil]; omega)) only [go_sem, Nat.reduceAdd, Nat.reduceMul, Nat.reduceSub, Int.reduceAdd, Int.reduceMul, Int.reduceSub, Int.reduceNeg, Int.reduceToNat, q3, q4, hr1]
      simp only [List.length_replicate]
      have hne : blk (.slice A' (i + 1) C') ≠ some σ.n := fun e => by
        rcases hb1 _ e with h | h
        · omega
        · exact hE.n1 h
      have hrep : List.replicate (i + 1) (-1 : Int) = List.replicate i (-1) ++ [-1] := List.replicate_succ'
      refine ⟨n - (i + 1), by omega, i + 1, .slice A' (i + 1) C', rfl, by omega, ⟨by simp -implicitDefEqProofs (disch := first | omega | (simp only [St.set_n, St.up_n, List.length_cons, List.length_nil]; omega)) only [go_sem, Nat.reduceAdd, Nat.reduceMul, Nat.reduceSub, Int.reduceAdd, Int.reduceMul, Int.reduceSub, Int.reduceNeg, Int.reduceToNat, q0], by simp -implicitDefEqProofs (disch := first | omega | (simp only [St.set_n, St.up_n, List.length_cons, List.length_nil]; omega)) only [go_sem, Nat.reduceAdd, Nat.reduceMul, Nat.reduceSub, Int.reduceAdd, Int.reduceMul, Int.reduceSub, Int.reduceNeg, Int.reduceToNat, q3], by simp -implicitDefEqProofs (disch := first | omega | (simp only [St.set_n, St.up_n, List.length_cons, List.length_nil]; omega)) only [go_sem, Nat.reduceAdd, Nat.reduceMul, Nat.reduceSub, Int.reduceAdd, Int.reduceMul, Int.reduceSub, Int.reduceNeg, Int.reduceToNat]; rfl, by simp -implicitDefEqProofs (disch := first | omega | (simp only [St.set_n, St.up_n, List.length_cons, List.length_nil]; omega)) only [go_sem, Nat.reduceAdd, Nat.reduceMul, Nat.reduceSub, Int.reduceAdd, Int.reduceMul, Int.reduceSub, Int.reduceNeg, Int.reduceToNat, hd]⟩, ⟨by simp -implicitDefEqProofs (disch := first | omega | (simp only [St.set_n, St.up_n, List.length_cons, List.length_nil]; omega)) only [go_sem, Nat.reduceAdd, Nat.reduceMul, Nat.reduceSub, Int.reduceAdd, Int.reduceMul, Int.reduceSub, Int.reduceNeg, Int.reduceToNat], ?_, Own.nil, Own.nil, fun b _ hb => (by cases hb), fun b _ hb => (by cases hb), fun b hb => (by cases hb), hne, by simp [blk], by simp [blk]⟩, fun c x hc hx => ?_, fun b hb => ?_, (show σ.n < t1.n by omega)⟩
      · have e1 : ints (List.replicate (i + 1) (-1)) = ints (List.replicate i (-1)) ++ [.int .i64 (-1)] := by rw [hrep]; simp [ints]
        rw [e1]
        simp only [List.length_replicate]
        refine o1'.keepR fun b o hb ho => ?_
        have : b ≠ σ.n := fun e => hne (e ▸ hb)
        simp -implicitDefEqProofs (disch := first | omega | (simp only [St.set_n, St.up_n, List.length_cons, List.length_nil]; omega)) only [go_sem, Nat.reduceAdd, Nat.reduceMul, Nat.reduceSub, Int.reduceAdd, Int.reduceMul, Int.reduceSub, Int.reduceNeg, Int.reduceToNat, ho]
      · have := hm1 c x (hold c x hc hx) fun e => by have := hw1 c e; omega
        simp -implicitDefEqProofs (disch := first | omega | (simp only [St.set_n, St.up_n, List.length_cons, List.length_nil]; omega)) only [go_sem, Nat.reduceAdd, Nat.reduceMul, Nat.reduceSub, Int.reduceAdd, Int.reduceMul, Int.reduceSub, Int.reduceNeg, Int.reduceToNat, this]
      · rcases hb1 b hb with h | h
        · omega
        · exact hw1 b h
    · have hin : i = n := by omega
      subst hin
      by_cases h1 : (i : Int) < th
      · have h2 : ¬ (i : Int) < 64 := by omega
        simp -implicitDefEqProofs (disch := first | omega | (simp only [St.set_n, St.up_n, List.length_cons, List.length_nil]; omega)) only [go_sem, Nat.reduceAdd, Nat.reduceMul, Nat.reduceSub, Int.reduceAdd, Int.reduceMul, Int.reduceSub, Int.reduceNeg, Int.reduceToNat, q0, q3, q4, h1, h2, hd]
        exact hK _ _ hE hold hw1 hsn
      · simp -implicitDefEqProofs (disch := first | omega | (simp only [St.set_n, St.up_n, List.length_cons, List.length_nil]; omega)) only [go_sem, Nat.reduceAdd, Nat.reduceMul, Nat.reduceSub, Int.reduceAdd, Int.reduceMul, Int.reduceSub, Int.reduceNeg, Int.reduceToNat, q0, q3, q4, h1, hd]
        exact hK _ _ hE hold hw1 hsn
theorem er_retire {p : Nat} {w1 w2 w3 : Value} {now x : Int} {pin : List Int} {Z : List (Int × Int)} (h : IsER σ p w1 w2 w3 now pin Z) (hZ : Z.length ≤ 100000)
    (hK : ∀ τ w2' w3', IsER τ p w1 w2' w3' now pin (Z ++ [(x, now)]) → (∀ c y, ¬ Foot p w1 w2 w3 c → σ.m c = some y → τ.m c = some y) → (∀ c, Foot p w1 w2' w3' c → σ.n ≤ c ∨ Foot p w1 w2 w3 c) → σ.n ≤ τ.n → K (.tuple #[]) τ) :
    Fn Try.prog B 24 #[.pointer (some ⟨p, 0, none⟩), .int .i64 x] σ K := by
  have hr := h.root
  refine Fn.of is24 (by simp) fun hwf => ?_
  have hpn := (hwf.2 _ _ hr).2
  obtain ⟨A2, c2, rfl, _⟩ := h.o2.is
  obtain ⟨A3, c3, rfl, _⟩ := h.o3.is
  simp only [b24, Try.f24, Option.getD_some]
  simp -implicitDefEqProofs (disch := first | omega | (simp only [St.set_n, St.up_n, List.length_cons, List.length_nil]; omega)) only [go_sem, Nat.reduceAdd, Nat.reduceMul, Nat.reduceSub, Int.reduceAdd, Int.reduceMul, Int.reduceSub, Int.reduceNeg, Int.reduceToNat, hr]
  refine appF_one (sz := 1) (bts := 8) (cs := ints (Z.map fun z => z.1)) (ys := [.int .i64 x]) hwf h.o2 se28 kd28 zr3 rfl (by omega) rfl rfl (by omega) fun A' C' t1 hC' o2' hw1' hk1 hm1 hb1 hn1 => ?_
  obtain ⟨o1', d21⟩ := hk1 _ _ _ _ _ h.o1 (fun b hb e => h.d12 b e hb)
  obtain ⟨o3', d23⟩ := hk1 _ _ _ _ _ h.o3 h.d23
  have hr1 := hm1 _ _ hr h.n2
  simp -implicitDefEqProofs (disch := first | omega | (simp only [St.set_n, St.up_n, List.length_cons, List.length_nil]; omega)) only [go_sem, Nat.reduceAdd, Nat.reduceMul, Nat.reduceSub, Int.reduceAdd, Int.reduceMul, Int.reduceSub, Int.reduceNeg, Int.reduceToNat, hr1]
  refine effD_plan [0, 0, 2, 6, 14, 0, 32, 96, 224, 480, 1022, 2047, 4095, 8191] [0, 1, 2, 3, 4, 5, 6, 7, 8, 11, 12] (.eag 0 (.eag 1 (.eag 2 (.eag 3 (.eagq 4 (.eag 5 (.eag 6 (.eag 7 (.eagq 8 (.alt 9 [4] (.alt 10 [] (.eag 11 (.eag 12 (.alt 13 [] .fin .stop))) .stop) .stop)))))))))) (by kernel_rfl) ?_
  simp -implicitDefEqProofs (disch := first | omega | (simp only [St.set_n, St.up_n, List.length_cons, List.length_nil]; omega)) only [go_sem, Nat.reduceAdd, Nat.reduceMul, Nat.reduceSub, Int.reduceAdd, Int.reduceMul, Int.reduceSub, Int.reduceNeg, Int.reduceToNat, hr1]
  have hw2 := hw1'.set (.raw (.cells #[.int .i64 now, w1, .slice A' (Z.length + 1) C', .slice A3 Z.length c3] 43 (0, 0))) (hw1'.2 _ _ hr1)
  have hnp : blk (.slice A' (Z.length + 1) C') ≠ some p := fun e => by
    rcases hb1 p e with h' | h'
    · omega
    · exact h.n2 h'
  have o3s : Own (t1.set p (.raw (.cells #[.int .i64 now, w1, .slice A' (Z.length + 1) C', .slice A3 Z.length c3] 43 (0, 0)))) 3 1 (ints (Z.map fun z => z.2)) Z.length (.slice A3 Z.length c3) := o3'.keepR fun b o hb ho => by
    have : b ≠ p := fun e => h.n3 (e ▸ hb)
    simp -implicitDefEqProofs (disch := first | omega | (simp only [St.set_n, St.up_n, List.length_cons, List.length_nil]; omega)) only [go_sem, Nat.reduceAdd, Nat.reduceMul, Nat.reduceSub, Int.reduceAdd, Int.reduceMul, Int.reduceSub, Int.reduceNeg, Int.reduceToNat, ho]
  have o1s : Own (t1.set p (.raw (.cells #[.int .i64 now, w1, .slice A' (Z.length + 1) C', .slice A3 Z.length c3] 43 (0, 0)))) 3 1 (ints pin) pin.length w1 := o1'.keepR fun b o hb ho => by
    have : b ≠ p := fun e => h.n1 (e ▸ hb)
    simp -implicitDefEqProofs (disch := first | omega | (simp only [St.set_n, St.up_n, List.length_cons, List.length_nil]; omega)) only [go_sem, Nat.reduceAdd, Nat.reduceMul, Nat.reduceSub, Int.reduceAdd, Int.reduceMul, Int.reduceSub, Int.reduceNeg, Int.reduceToNat, ho]
  have o2s : Own (t1.set p (.raw (.cells #[.int .i64 now, w1, .slice A' (Z.length + 1) C', .slice A3 Z.length c3] 43 (0, 0)))) 3 1 (ints (Z.map fun z => z.1) ++ [.int .i64 x]) (Z.length + 1) (.slice A' (Z.length + 1) C') := o2'.keepR fun b o hb ho => by
    have : b ≠ p := fun e => hnp (e ▸ hb)
    simp -implicitDefEqProofs (disch := first | omega | (simp only [St.set_n, St.up_n, List.length_cons, List.length_nil]; omega)) only [go_sem, Nat.reduceAdd, Nat.reduceMul, Nat.reduceSub, Int.reduceAdd, Int.reduceMul, Int.reduceSub, Int.reduceNeg, Int.reduceToNat, ho]
  refine appF_one (s := t1.set p (.raw (.cells #[.int .i64 now, w1, .slice A' (Z.length + 1) C', .slice A3 Z.length c3] 43 (0, 0)))) (sz := 1) (bts := 8) (cs := ints (Z.map fun z => z.2)) (ys := [.int .i64 now]) hw2 o3s se28 kd28 zr3 rfl (by omega) rfl rfl (by omega) fun A'' C'' t2 hC'' o3'' hw2' hk2 hm2 hb2 hn2 => ?_
  simp only [St.set_n] at hb2 hn2
  obtain ⟨o1'', d31⟩ := hk2 _ _ _ _ _ o1s (fun b hb e => h.d13 b e hb)
  obtain ⟨o2'', d32⟩ := hk2 _ _ _ _ _ o2s (fun b hb e => d23 b e hb)
  have hr2 := hm2 p (.raw (.cells #[.int .i64 now, w1, .slice A' (Z.length + 1) C', .slice A3 Z.length c3] 43 (0, 0))) (by simp -implicitDefEqProofs (disch := first | omega | (simp only [St.set_n, St.up_n, List.length_cons, List.length_nil]; omega)) only [go_sem, Nat.reduceAdd, Nat.reduceMul, Nat.reduceSub, Int.reduceAdd, Int.reduceMul, Int.reduceSub, Int.reduceNeg, Int.reduceToNat]) h.n3
  simp -implicitDefEqProofs (disch := first | omega | (simp only [St.set_n, St.up_n, List.length_cons, List.length_nil]; omega)) only [go_sem, Nat.reduceAdd, Nat.reduceMul, Nat.reduceSub, Int.reduceAdd, Int.reduceMul, Int.reduceSub, Int.reduceNeg, Int.reduceToNat, hr2]
  have hnp3 : blk (.slice A'' (Z.length + 1) C'') ≠ some p := fun e => by
    rcases hb2 p e with h' | h'
    · omega
    · exact h.n3 h'
  have hl : (Z ++ [(x, now)]).length = Z.length + 1 := by simp
  have e1 : ints ((Z ++ [(x, now)]).map fun z => z.1) = ints (Z.map fun z => z.1) ++ [.int .i64 x] := by simp [ints]
  have e2 : ints ((Z ++ [(x, now)]).map fun z => z.2) = ints (Z.map fun z => z.2) ++ [.int .i64 now] := by simp [ints]
  refine hK _ (.slice A' (Z.length + 1) C') (.slice A'' (Z.length + 1) C'') ⟨by simp -implicitDefEqProofs (disch := first | omega | (simp only [St.set_n, St.up_n, List.length_cons, List.length_nil]; omega)) only [go_sem, Nat.reduceAdd, Nat.reduceMul, Nat.reduceSub, Int.reduceAdd, Int.reduceMul, Int.reduceSub, Int.reduceNeg, Int.reduceToNat], ?_, ?_, ?_, fun b hb e => d21 b e hb, fun b hb e => d31 b e hb, fun b hb e => d32 b e hb, h.n1, hnp, hnp3⟩ (fun c y hc hy => ?_) (fun c hc => ?_) (by simp -implicitDefEqProofs (disch := first | omega | (simp only [St.set_n, St.up_n, List.length_cons, List.length_nil]; omega)) only [go_sem, Nat.reduceAdd, Nat.reduceMul, Nat.reduceSub, Int.reduceAdd, Int.reduceMul, Int.reduceSub, Int.reduceNeg, Int.reduceToNat]; omega)
  · refine o1''.keepR fun b o hb ho => ?_
    have : b ≠ p := fun e => h.n1 (e ▸ hb)
    simp -implicitDefEqProofs (disch := first | omega | (simp only [St.set_n, St.up_n, List.length_cons, List.length_nil]; omega)) only [go_sem, Nat.reduceAdd, Nat.reduceMul, Nat.reduceSub, Int.reduceAdd, Int.reduceMul, Int.reduceSub, Int.reduceNeg, Int.reduceToNat, ho]
  · rw [hl, e1]
    refine o2''.keepR fun b o hb ho => ?_
    have : b ≠ p := fun e => hnp (e ▸ hb)
    simp -implicitDefEqProofs (disch := first | omega | (simp only [St.set_n, St.up_n, List.length_cons, List.length_nil]; omega)) only [go_sem, Nat.reduceAdd, Nat.reduceMul, Nat.reduceSub, Int.reduceAdd, Int.reduceMul, Int.reduceSub, Int.reduceNeg, Int.reduceToNat, ho]
  · rw [hl, e2]
    refine o3''.keepR fun b o hb ho => ?_
    have : b ≠ p := fun e => hnp3 (e ▸ hb)
    simp -implicitDefEqProofs (disch := first | omega | (simp only [St.set_n, St.up_n, List.length_cons, List.length_nil]; omega)) only [go_sem, Nat.reduceAdd, Nat.reduceMul, Nat.reduceSub, Int.reduceAdd, Int.reduceMul, Int.reduceSub, Int.reduceNeg, Int.reduceToNat, ho]
  · have hcp : c ≠ p := fun e => hc (.inl e)
    have h1 := hm1 c y hy fun e => hc (.inr (.inr (.inl e)))
    have h2 := hm2 c y (by simp -implicitDefEqProofs (disch := first | omega | (simp only [St.set_n, St.up_n, List.length_cons, List.length_nil]; omega)) only [go_sem, Nat.reduceAdd, Nat.reduceMul, Nat.reduceSub, Int.reduceAdd, Int.reduceMul, Int.reduceSub, Int.reduceNeg, Int.reduceToNat, h1]) fun e => hc (.inr (.inr (.inr e)))
    simp -implicitDefEqProofs (disch := first | omega | (simp only [St.set_n, St.up_n, List.length_cons, List.length_nil]; omega)) only [go_sem, Nat.reduceAdd, Nat.reduceMul, Nat.reduceSub, Int.reduceAdd, Int.reduceMul, Int.reduceSub, Int.reduceNeg, Int.reduceToNat, h2]
  · rcases hc with rfl | hc | hc | hc
    · exact .inr (.inl rfl)
    · exact .inr (.inr (.inl hc))
    · rcases hb1 c hc with h' | h'
      · exact .inl h'
      · exact .inr (.inr (.inr (.inl h')))
    · rcases hb2 c hc with h' | h'
      · exact .inl (by omega)
      · exact .inr (.inr (.inr (.inr h')))
structure Ia (p i : Nat) (e : Fr) : Prop where
  v0 : e.v 0 = .pointer (some ⟨p, 0, none⟩)
  v4 : e.v 4 = .int .i64 i
  d : e.d = []
theorem er_advance_no {p : Nat} {w1 w2 w3 : Value} {now : Int} {pin : List Int} {Z : List (Int × Int)} (h : IsER σ p w1 w2 w3 now pin Z) (ha : pin.any (late now) = true) (hpl : pin.length ≤ 100000)
    (hK : K (.tuple #[.slice none 0 0, .bool false]) σ) : Fn Try.prog B 25 #[.pointer (some ⟨p, 0, none⟩)] σ K := by
  have hr := h.root
  obtain ⟨A, c, rfl, hc⟩ := h.o1.is
  refine Fn.of is25 (by simp) fun hwf => ?_
  simp only [b25, Try.f25, Option.getD_some]
  simp -implicitDefEqProofs (disch := first | omega | (simp only [St.set_n, St.up_n, List.length_cons, List.length_nil]; omega)) only [go_sem, Nat.reduceAdd, Nat.reduceMul, Nat.reduceSub, Int.reduceAdd, Int.reduceMul, Int.reduceSub, Int.reduceNeg, Int.reduceToNat]
  refine loop_rule (fun m e s => ∃ i : Nat, m = pin.length - i ∧ i ≤ pin.length ∧ Ia p i e ∧ s = σ ∧ ∀ j y, j < i → pin[j]? = some y → late now y = false) pin.length ?_ ?_
  · exact ⟨0, by omega, by omega, ⟨by simp -implicitDefEqProofs (disch := first | omega | (simp only [St.set_n, St.up_n, List.length_cons, List.length_nil]; omega)) only [go_sem, Nat.reduceAdd, Nat.reduceMul, Nat.reduceSub, Int.reduceAdd, Int.reduceMul, Int.reduceSub, Int.reduceNeg, Int.reduceToNat], by simp -implicitDefEqProofs (disch := first | omega | (simp only [St.set_n, St.up_n, List.length_cons, List.length_nil]; omega)) only [go_sem, Nat.reduceAdd, Nat.reduceMul, Nat.reduceSub, Int.reduceAdd, Int.reduceMul, Int.reduceSub, Int.reduceNeg, Int.reduceToNat]; rfl, by simp -implicitDefEqProofs (disch := first | omega | (simp only [St.set_n, St.up_n, List.length_cons, List.length_nil]; omega)) only [go_sem, Nat.reduceAdd, Nat.reduceMul, Nat.reduceSub, Int.reduceAdd, Int.reduceMul, Int.reduceSub, Int.reduceNeg, Int.reduceToNat]⟩, rfl, fun j y hj _ => by omega⟩
  · rintro m e s hws ⟨i, hm, hi, ⟨q0, q4, hd⟩, rfl, hall⟩
    by_cases hlt : (i : Int) < pin.length
    · obtain ⟨x, hx⟩ : ∃ x, pin[i]? = some x := ⟨pin[i]'(by omega), List.getElem?_eq_getElem (by omega)⟩
      obtain ⟨b1, c1, sp1, e1, _, m1, _, _⟩ := h.o1.has (by omega)
      cases e1
      have g1 : (ints pin ++ sp1)[i]? = some (.int .i64 x) := ints_get hx sp1
      by_cases h0 : 0 ≤ x
      · by_cases h1 : x = now
        · have hl : late now x = false := by simp [late, h1]
          subst h1
          simp -implicitDefEqProofs (disch := first | omega | (simp only [St.set_n, St.up_n, List.length_cons, List.length_nil]; omega)) only [go_sem, Nat.reduceAdd, Nat.reduceMul, Nat.reduceSub, Int.reduceAdd, Int.reduceMul, Int.reduceSub, Int.reduceNeg, Int.reduceToNat, q0, q4, hr, hlt, m1, g1, h0]
          refine ⟨pin.length - (i + 1), by omega, i + 1, rfl, by omega, ⟨by simp -implicitDefEqProofs (disch := first | omega | (simp only [St.set_n, St.up_n, List.length_cons, List.length_nil]; omega)) only [go_sem, Nat.reduceAdd, Nat.reduceMul, Nat.reduceSub, Int.reduceAdd, Int.reduceMul, Int.reduceSub, Int.reduceNeg, Int.reduceToNat, q0], by simp -implicitDefEqProofs (disch := first | omega | (simp only [St.set_n, St.up_n, List.length_cons, List.length_nil]; omega)) only [go_sem, Nat.reduceAdd, Nat.reduceMul, Nat.reduceSub, Int.reduceAdd, Int.reduceMul, Int.reduceSub, Int.reduceNeg, Int.reduceToNat]; rfl, by simp -implicitDefEqProofs (disch := first | omega | (simp only [St.set_n, St.up_n, List.length_cons, List.length_nil]; omega)) only [go_sem, Nat.reduceAdd, Nat.reduceMul, Nat.reduceSub, Int.reduceAdd, Int.reduceMul, Int.reduceSub, Int.reduceNeg, Int.reduceToNat, hd]⟩, fun j y hj hy => ?_⟩
          by_cases hji : j = i
          · subst hji; rw [hx] at hy; cases hy; exact hl
          · exact hall j y (by omega) hy
        · simp -implicitDefEqProofs (disch := first | omega | (simp only [St.set_n, St.up_n, List.length_cons, List.length_nil]; omega)) only [go_sem, Nat.reduceAdd, Nat.reduceMul, Nat.reduceSub, Int.reduceAdd, Int.reduceMul, Int.reduceSub, Int.reduceNeg, Int.reduceToNat, q0, q4, hr, hlt, m1, g1, h0, h1, hd]
          exact hK
      · have hl : late now x = false := by simp [late, h0]
        simp -implicitDefEqProofs (disch := first | omega | (simp only [St.set_n, St.up_n, List.length_cons, List.length_nil]; omega)) only [go_sem, Nat.reduceAdd, Nat.reduceMul, Nat.reduceSub, Int.reduceAdd, Int.reduceMul, Int.reduceSub, Int.reduceNeg, Int.reduceToNat, q0, q4, hr, hlt, m1, g1, h0]
        refine ⟨pin.length - (i + 1), by omega, i + 1, rfl, by omega, ⟨by simp -implicitDefEqProofs (disch := first | omega | (simp only [St.set_n, St.up_n, List.length_cons, List.length_nil]; omega)) only [go_sem, Nat.reduceAdd, Nat.reduceMul, Nat.reduceSub, Int.reduceAdd, Int.reduceMul, Int.reduceSub, Int.reduceNeg, Int.reduceToNat, q0], by simp -implicitDefEqProofs (disch := first | omega | (simp only [St.set_n, St.up_n, List.length_cons, List.length_nil]; omega)) only [go_sem, Nat.reduceAdd, Nat.reduceMul, Nat.reduceSub, Int.reduceAdd, Int.reduceMul, Int.reduceSub, Int.reduceNeg, Int.reduceToNat]; rfl, by simp -implicitDefEqProofs (disch := first | omega | (simp only [St.set_n, St.up_n, List.length_cons, List.length_nil]; omega)) only [go_sem, Nat.reduceAdd, Nat.reduceMul, Nat.reduceSub, Int.reduceAdd, Int.reduceMul, Int.reduceSub, Int.reduceNeg, Int.reduceToNat, hd]⟩, fun j y hj hy => ?_⟩
        by_cases hji : j = i
        · subst hji; rw [hx] at hy; cases hy; exact hl
        · exact hall j y (by omega) hy
    · exfalso
      obtain ⟨y, hy, hl⟩ := List.any_eq_true.1 ha
      obtain ⟨j, hj⟩ := List.getElem?_of_mem hy
      rw [hall j y (by have := (List.getElem?_eq_some_iff.1 hj).1; omega) hj] at hl
      cases hl
def gone (now : Int) (Z : List (Int × Int)) : List Int := (Z.filter fun z => decide (z.2 ≤ now - 3)).map fun z => z.1
def stay (now : Int) (Z : List (Int × Int)) : List (Int × Int) := Z.filter fun z => !decide (z.2 ≤ now - 3)
theorem gone_snoc {now : Int} {Z : List (Int × Int)} {z : Int × Int} : gone now (Z ++ [z]) = if z.2 ≤ now - 3 then gone now Z ++ [z.1] else gone now Z := by
  unfold gone; by_cases h : z.2 ≤ now - 3 <;> simp [List.filter_append, h]
theorem stay_snoc {now : Int} {Z : List (Int × Int)} {z : Int × Int} : stay now (Z ++ [z]) = if z.2 ≤ now - 3 then stay now Z else stay now Z ++ [z] := by
  unfold stay; by_cases h : z.2 ≤ now - 3 <;> simp [List.filter_append, h]
theorem gone_len (now : Int) (Z : List (Int × Int)) : (gone now Z).length ≤ Z.length := by
  unfold gone; rw [List.length_map]; exact List.length_filter_le _ _
theorem stay_len (now : Int) (Z : List (Int × Int)) : (stay now Z).length ≤ Z.length := List.length_filter_le _ _
theorem take_snoc {α : Type} {L : List α} {i : Nat} {x : α} (h : L[i]? = some x) : L.take (i + 1) = L.take i ++ [x] := by
  rw [List.take_add_one, h]; rfl
structure Ib (p i : Nat) (w5 w6 w7 : Value) (e : Fr) : Prop where
  v0 : e.v 0 = .pointer (some ⟨p, 0, none⟩)
  v5 : e.v 5 = w5
  v6 : e.v 6 = w6
  v7 : e.v 7 = w7
  v8 : e.v 8 = .int .i64 i
  d : e.d = []
structure Sb (σ : St) (p : Nat) (w1 w2 w3 : Value) (now : Int) (pin : List Int) (Z Y : List (Int × Int)) (w5 w6 w7 : Value) (s : St) : Prop where
  er : IsER s p w1 w2 w3 now pin Z
  o5 : Own s 3 1 (ints (gone now Y)) (gone now Y).length w5
  o6 : Own s 3 1 (ints ((stay now Y).map fun z => z.1)) (stay now Y).length w6
  o7 : Own s 3 1 (ints ((stay now Y).map fun z => z.2)) (stay now Y).length w7
  d56 : Dis w5 w6
  d57 : Dis w5 w7
  d67 : Dis w6 w7
  n5 : ∀ b, blk w5 = some b → σ.n ≤ b
  n6 : ∀ b, blk w6 = some b → σ.n ≤ b
  n7 : ∀ b, blk w7 = some b → σ.n ≤ b
  old : ∀ c y, c ≠ p → σ.m c = some y → s.m c = some y
  sn : σ.n ≤ s.n
theorem IsER.low {p : Nat} {w1 w2 w3 : Value} {now : Int} {pin : List Int} {Z : List (Int × Int)} (h : IsER σ p w1 w2 w3 now pin Z) (hwf : σ.wf B) {c : Nat} (hc : Foot p w1 w2 w3 c) : c < σ.n := by
  rcases hc with rfl | hc | hc | hc
  · exact (hwf.2 _ _ h.root).2
  · obtain ⟨o, ho⟩ := h.o1.at_ hc; exact (hwf.2 _ _ ho).2
  · obtain ⟨o, ho⟩ := h.o2.at_ hc; exact (hwf.2 _ _ ho).2
  · obtain ⟨o, ho⟩ := h.o3.at_ hc; exact (hwf.2 _ _ ho).2
set_option maxHeartbeats 4000000 in
theorem er_advance {p : Nat} {now : Int} {w1 w2 w3 : Value} {pin : List Int} {Z : List (Int × Int)} (h : IsER σ p w1 w2 w3 now pin Z) (ha : pin.any (late now) = false) (hnow : 0 ≤ now ∧ now ≤ 1000000) (hpl : pin.length ≤ 100000) (hZ : Z.length ≤ 100000)
    (hK : ∀ v τ w2' w3', IsER τ p w1 w2' w3' (now + 1) pin (stay (now + 1) Z) → Own τ 3 1 (ints (gone (now + 1) Z)) (gone (now + 1) Z).length v → (∀ c y, ¬ Foot p w1 w2 w3 c → σ.m c = some y → τ.m c = some y) → (∀ c, Foot p w1 w2' w3' c → σ.n ≤ c ∨ Foot p w1 w2 w3 c) → σ.n ≤ τ.n →
      K (.tuple #[v, .bool true]) τ) : Fn Try.prog B 25 #[.pointer (some ⟨p, 0, none⟩)] σ K := by
  have hr := h.root
  obtain ⟨A, c, rfl, hc⟩ := h.o1.is
  obtain ⟨A2, c2, rfl, _⟩ := h.o2.is
  obtain ⟨A3, c3, rfl, _⟩ := h.o3.is
  refine Fn.of is25 (by simp) fun hwf => ?_
  have hlow := fun c hc => h.low hwf (c := c) hc
  have hpn := hlow p (.inl rfl)
  simp only [b25, Try.f25, Option.getD_some]
  simp -implicitDefEqProofs (disch := first | omega | (simp only [St.set_n, St.up_n, List.length_cons, List.length_nil]; omega)) only [go_sem, Nat.reduceAdd, Nat.reduceMul, Nat.reduceSub, Int.reduceAdd, Int.reduceMul, Int.reduceSub, Int.reduceNeg, Int.reduceToNat]
  refine loop_rule (fun m e s => ∃ i : Nat, m = pin.length - i ∧ i ≤ pin.length ∧ Ia p i e ∧ s = σ) pin.length ?_ ?_
  · exact ⟨0, by omega, by omega, ⟨by simp -implicitDefEqProofs (disch := first | omega | (simp only [St.set_n, St.up_n, List.length_cons, List.length_nil]; omega)) only [go_sem, Nat.reduceAdd, Nat.reduceMul, Nat.reduceSub, Int.reduceAdd, Int.reduceMul, Int.reduceSub, Int.reduceNeg, Int.reduceToNat], by simp -implicitDefEqProofs (disch := first | omega | (simp only [St.set_n, St.up_n, List.length_cons, List.length_nil]; omega)) only [go_sem, Nat.reduceAdd, Nat.reduceMul, Nat.reduceSub, Int.reduceAdd, Int.reduceMul, Int.reduceSub, Int.reduceNeg, Int.reduceToNat]; rfl, by simp -implicitDefEqProofs (disch := first | omega | (simp only [St.set_n, St.up_n, List.length_cons, List.length_nil]; omega)) only [go_sem, Nat.reduceAdd, Nat.reduceMul, Nat.reduceSub, Int.reduceAdd, Int.reduceMul, Int.reduceSub, Int.reduceNeg, Int.reduceToNat]⟩, rfl⟩
  rintro m e s hws ⟨i, hm, hi, ⟨q0, q4, hd⟩, rfl⟩
  by_cases hlt : (i : Int) < pin.length
  · obtain ⟨x, hx⟩ : ∃ x, pin[i]? = some x := ⟨pin[i]'(by omega), List.getElem?_eq_getElem (by omega)⟩
    obtain ⟨b1, c1, sp1, e1, _, m1, _, _⟩ := h.o1.has (by omega)
    cases e1
    have g1 : (ints pin ++ sp1)[i]? = some (.int .i64 x) := ints_get hx sp1
    have hl : late now x = false := by
      have := List.any_eq_false.1 ha x (List.mem_of_getElem? hx)
      simpa using this
    by_cases h0 : 0 ≤ x
    · have h1 : x = now := by simpa [late, h0] using hl
      subst h1
      simp -implicitDefEqProofs (disch := first | omega | (simp only [St.set_n, St.up_n, List.length_cons, List.length_nil]; omega)) only [go_sem, Nat.reduceAdd, Nat.reduceMul, Nat.reduceSub, Int.reduceAdd, Int.reduceMul, Int.reduceSub, Int.reduceNeg, Int.reduceToNat, q0, q4, hr, hlt, m1, g1, h0]
      exact ⟨pin.length - (i + 1), by omega, i + 1, rfl, by omega, ⟨by simp -implicitDefEqProofs (disch := first | omega | (simp only [St.set_n, St.up_n, List.length_cons, List.length_nil]; omega)) only [go_sem, Nat.reduceAdd, Nat.reduceMul, Nat.reduceSub, Int.reduceAdd, Int.reduceMul, Int.reduceSub, Int.reduceNeg, Int.reduceToNat, q0], by simp -implicitDefEqProofs (disch := first | omega | (simp only [St.set_n, St.up_n, List.length_cons, List.length_nil]; omega)) only [go_sem, Nat.reduceAdd, Nat.reduceMul, Nat.reduceSub, Int.reduceAdd, Int.reduceMul, Int.reduceSub, Int.reduceNeg, Int.reduceToNat]; rfl, by simp -implicitDefEqProofs (disch := first | omega | (simp only [St.set_n, St.up_n, List.length_cons, List.length_nil]; omega)) only [go_sem, Nat.reduceAdd, Nat.reduceMul, Nat.reduceSub, Int.reduceAdd, Int.reduceMul, Int.reduceSub, Int.reduceNeg, Int.reduceToNat, hd]⟩⟩
    · simp -implicitDefEqProofs (disch := first | omega | (simp only [St.set_n, St.up_n, List.length_cons, List.length_nil]; omega)) only [go_sem, Nat.reduceAdd, Nat.reduceMul, Nat.reduceSub, Int.reduceAdd, Int.reduceMul, Int.reduceSub, Int.reduceNeg, Int.reduceToNat, q0, q4, hr, hlt, m1, g1, h0]
      exact ⟨pin.length - (i + 1), by omega, i + 1, rfl, by omega, ⟨by simp -implicitDefEqProofs (disch := first | omega | (simp only [St.set_n, St.up_n, List.length_cons, List.length_nil]; omega)) only [go_sem, Nat.reduceAdd, Nat.reduceMul, Nat.reduceSub, Int.reduceAdd, Int.reduceMul, Int.reduceSub, Int.reduceNeg, Int.reduceToNat, q0], by simp -implicitDefEqProofs (disch := first | omega | (simp only [St.set_n, St.up_n, List.length_cons, List.length_nil]; omega)) only [go_sem, Nat.reduceAdd, Nat.reduceMul, Nat.reduceSub, Int.reduceAdd, Int.reduceMul, Int.reduceSub, Int.reduceNeg, Int.reduceToNat]; rfl, by simp -implicitDefEqProofs (disch := first | omega | (simp only [St.set_n, St.up_n, List.length_cons, List.length_nil]; omega)) only [go_sem, Nat.reduceAdd, Nat.reduceMul, Nat.reduceSub, Int.reduceAdd, Int.reduceMul, Int.reduceSub, Int.reduceNeg, Int.reduceToNat, hd]⟩⟩
  · simp -implicitDefEqProofs (disch := first | omega | (simp only [St.set_n, St.up_n, List.length_cons, List.length_nil]; omega)) only [go_sem, Nat.reduceAdd, Nat.reduceMul, Nat.reduceSub, Int.reduceAdd, Int.reduceMul, Int.reduceSub, Int.reduceNeg, Int.reduceToNat, q0, q4, hr, hlt]
    have hs0 : Sb s p (.slice A pin.length c) (.slice A2 Z.length c2) (.slice A3 Z.length c3) (now + 1) pin Z [] (.slice none 0 0) (.slice none 0 0) (.slice none 0 0) (s.set p (.raw (.cells #[.int .i64 (now + 1), .slice A pin.length c, .slice A2 Z.length c2, .slice A3 Z.length c3] 43 (0, 0)))) := by
      refine ⟨⟨by simp -implicitDefEqProofs (disch := first | omega | (simp only [St.set_n, St.up_n, List.length_cons, List.length_nil]; omega)) only [go_sem, Nat.reduceAdd, Nat.reduceMul, Nat.reduceSub, Int.reduceAdd, Int.reduceMul, Int.reduceSub, Int.reduceNeg, Int.reduceToNat], h.o1.keepR fun b o hb ho => ?_, h.o2.keepR fun b o hb ho => ?_, h.o3.keepR fun b o hb ho => ?_, h.d12, h.d13, h.d23, h.n1, h.n2, h.n3⟩, Own.nil, Own.nil, Own.nil, fun b hb => (by cases hb), fun b hb => (by cases hb), fun b hb => (by cases hb), fun b hb => (by cases hb), fun b hb => (by cases hb), fun b hb => (by cases hb), fun c y hc hy => by simp -implicitDefEqProofs (disch := first | omega | (simp only [St.set_n, St.up_n, List.length_cons, List.length_nil]; omega)) only [go_sem, Nat.reduceAdd, Nat.reduceMul, Nat.reduceSub, Int.reduceAdd, Int.reduceMul, Int.reduceSub, Int.reduceNeg, Int.reduceToNat, hy], Nat.le_refl _⟩
      · have : b ≠ p := fun e => h.n1 (e ▸ hb)
        simp -implicitDefEqProofs (disch := first | omega | (simp only [St.set_n, St.up_n, List.length_cons, List.length_nil]; omega)) only [go_sem, Nat.reduceAdd, Nat.reduceMul, Nat.reduceSub, Int.reduceAdd, Int.reduceMul, Int.reduceSub, Int.reduceNeg, Int.reduceToNat, ho]
      · have : b ≠ p := fun e => h.n2 (e ▸ hb)
        simp -implicitDefEqProofs (disch := first | omega | (simp only [St.set_n, St.up_n, List.length_cons, List.length_nil]; omega)) only [go_sem, Nat.reduceAdd, Nat.reduceMul, Nat.reduceSub, Int.reduceAdd, Int.reduceMul, Int.reduceSub, Int.reduceNeg, Int.reduceToNat, ho]
      · have : b ≠ p := fun e => h.n3 (e ▸ hb)
        simp -implicitDefEqProofs (disch := first | omega | (simp only [St.set_n, St.up_n, List.length_cons, List.length_nil]; omega)) only [go_sem, Nat.reduceAdd, Nat.reduceMul, Nat.reduceSub, Int.reduceAdd, Int.reduceMul, Int.reduceSub, Int.reduceNeg, Int.reduceToNat, ho]
    refine loop_rule (fun m e t => ∃ (i : Nat) (w5 w6 w7 : Value), m = Z.length - i ∧ i ≤ Z.length ∧ Ib p i w5 w6 w7 e ∧ Sb s p (.slice A pin.length c) (.slice A2 Z.length c2) (.slice A3 Z.length c3) (now + 1) pin Z (Z.take i) w5 w6 w7 t) Z.length ?_ ?_
    · exact ⟨0, _, _, _, by omega, by omega, ⟨by simp -implicitDefEqProofs (disch := first | omega | (simp only [St.set_n, St.up_n, List.length_cons, List.length_nil]; omega)) only [go_sem, Nat.reduceAdd, Nat.reduceMul, Nat.reduceSub, Int.reduceAdd, Int.reduceMul, Int.reduceSub, Int.reduceNeg, Int.reduceToNat, q0], by simp -implicitDefEqProofs (disch := first | omega | (simp only [St.set_n, St.up_n, List.length_cons, List.length_nil]; omega)) only [go_sem, Nat.reduceAdd, Nat.reduceMul, Nat.reduceSub, Int.reduceAdd, Int.reduceMul, Int.reduceSub, Int.reduceNeg, Int.reduceToNat], by simp -implicitDefEqProofs (disch := first | omega | (simp only [St.set_n, St.up_n, List.length_cons, List.length_nil]; omega)) only [go_sem, Nat.reduceAdd, Nat.reduceMul, Nat.reduceSub, Int.reduceAdd, Int.reduceMul, Int.reduceSub, Int.reduceNeg, Int.reduceToNat], by simp -implicitDefEqProofs (disch := first | omega | (simp only [St.set_n, St.up_n, List.length_cons, List.length_nil]; omega)) only [go_sem, Nat.reduceAdd, Nat.reduceMul, Nat.reduceSub, Int.reduceAdd, Int.reduceMul, Int.reduceSub, Int.reduceNeg, Int.reduceToNat], by simp -implicitDefEqProofs (disch := first | omega | (simp only [St.set_n, St.up_n, List.length_cons, List.length_nil]; omega)) only [go_sem, Nat.reduceAdd, Nat.reduceMul, Nat.reduceSub, Int.reduceAdd, Int.reduceMul, Int.reduceSub, Int.reduceNeg, Int.reduceToNat]; rfl, by simp -implicitDefEqProofs (disch := first | omega | (simp only [St.set_n, St.up_n, List.length_cons, List.length_nil]; omega)) only [go_sem, Nat.reduceAdd, Nat.reduceMul, Nat.reduceSub, Int.reduceAdd, Int.reduceMul, Int.reduceSub, Int.reduceNeg, Int.reduceToNat, hd]⟩, hs0⟩
    · clear hs0
      rintro m e t hwt ⟨i, w5, w6, w7, hm, hi, ⟨q0, q5, q6, q7, q8, hd⟩, hF⟩
      have hrt := hF.er.root
      by_cases hlt : (i : Int) < Z.length
      · obtain ⟨z, hz⟩ : ∃ z, Z[i]? = some z := ⟨Z[i]'(by omega), List.getElem?_eq_getElem (by omega)⟩
        obtain ⟨b2, c2', sp2, e2, _, m2, _, _⟩ := hF.er.o2.has (by omega)
        cases e2
        obtain ⟨b3, c3', sp3, e3, _, m3, _, _⟩ := hF.er.o3.has (by omega)
        cases e3
        have g2 : (ints (Z.map fun z => z.1) ++ sp2)[i]? = some (.int .i64 z.1) := ints_get (by simp [hz]) sp2
        have g3 : (ints (Z.map fun z => z.2) ++ sp3)[i]? = some (.int .i64 z.2) := ints_get (by simp [hz]) sp3
        have hl5 := gone_len (now + 1) (Z.take i)
        have hl6 := stay_len (now + 1) (Z.take i)
        rw [List.length_take] at hl5 hl6
        by_cases hg : z.2 ≤ now + 1 - 3
        · simp -implicitDefEqProofs (disch := first | omega | (simp only [St.set_n, St.up_n, List.length_cons, List.length_nil]; omega)) only [go_sem, Nat.reduceAdd, Nat.reduceMul, Nat.reduceSub, Int.reduceAdd, Int.reduceMul, Int.reduceSub, Int.reduceNeg, Int.reduceToNat, q0, q5, q8, hrt, hlt, m2, m3, g2, g3, hg]
          refine appF_one (sz := 1) (bts := 8) (cs := ints (gone (now + 1) (Z.take i))) (ys := [.int .i64 z.1]) hwt hF.o5 se28 kd28 zr3 rfl (by omega) rfl rfl (by omega) fun A' C' t1 hC' o5' hw1 hk1 hm1 hb1 hn1 => ?_
          have hoff : ∀ c, c < s.n → blk w5 ≠ some c := fun c hc e => by have := hF.n5 c e; omega
          obtain ⟨o6', d6⟩ := hk1 _ _ _ _ _ hF.o6 hF.d56
          obtain ⟨o7', d7⟩ := hk1 _ _ _ _ _ hF.o7 hF.d57
          have hsn := hF.sn
          have f1 := gone_snoc (now := now + 1) (Z := Z.take i) (z := z)
          have f2 := stay_snoc (now := now + 1) (Z := Z.take i) (z := z)
          rw [if_pos hg, ← take_snoc hz] at f1 f2
          simp -implicitDefEqProofs (disch := first | omega | (simp only [St.set_n, St.up_n, List.length_cons, List.length_nil]; omega)) only [go_sem, Nat.reduceAdd, Nat.reduceMul, Nat.reduceSub, Int.reduceAdd, Int.reduceMul, Int.reduceSub, Int.reduceNeg, Int.reduceToNat, q8]
          refine ⟨Z.length - (i + 1), by omega, i + 1, .slice A' ((gone (now + 1) (Z.take i)).length + 1) C', w6, w7, rfl, by omega, ⟨by simp -implicitDefEqProofs (disch := first | omega | (simp only [St.set_n, St.up_n, List.length_cons, List.length_nil]; omega)) only [go_sem, Nat.reduceAdd, Nat.reduceMul, Nat.reduceSub, Int.reduceAdd, Int.reduceMul, Int.reduceSub, Int.reduceNeg, Int.reduceToNat, q0], by simp -implicitDefEqProofs (disch := first | omega | (simp only [St.set_n, St.up_n, List.length_cons, List.length_nil]; omega)) only [go_sem, Nat.reduceAdd, Nat.reduceMul, Nat.reduceSub, Int.reduceAdd, Int.reduceMul, Int.reduceSub, Int.reduceNeg, Int.reduceToNat], by simp -implicitDefEqProofs (disch := first | omega | (simp only [St.set_n, St.up_n, List.length_cons, List.length_nil]; omega)) only [go_sem, Nat.reduceAdd, Nat.reduceMul, Nat.reduceSub, Int.reduceAdd, Int.reduceMul, Int.reduceSub, Int.reduceNeg, Int.reduceToNat, q6], by simp -implicitDefEqProofs (disch := first | omega | (simp only [St.set_n, St.up_n, List.length_cons, List.length_nil]; omega)) only [go_sem, Nat.reduceAdd, Nat.reduceMul, Nat.reduceSub, Int.reduceAdd, Int.reduceMul, Int.reduceSub, Int.reduceNeg, Int.reduceToNat, q7], by simp -implicitDefEqProofs (disch := first | omega | (simp only [St.set_n, St.up_n, List.length_cons, List.length_nil]; omega)) only [go_sem, Nat.reduceAdd, Nat.reduceMul, Nat.reduceSub, Int.reduceAdd, Int.reduceMul, Int.reduceSub, Int.reduceNeg, Int.reduceToNat]; rfl, by simp -implicitDefEqProofs (disch := first | omega | (simp only [St.set_n, St.up_n, List.length_cons, List.length_nil]; omega)) only [go_sem, Nat.reduceAdd, Nat.reduceMul, Nat.reduceSub, Int.reduceAdd, Int.reduceMul, Int.reduceSub, Int.reduceNeg, Int.reduceToNat, hd]⟩, ⟨hF.er.keep fun c x hc hx => hm1 c x hx (hoff c (hlow c hc)), ?_, by rw [f2]; exact o6', by rw [f2]; exact o7', d6, d7, hF.d67, fun b hb => ?_, hF.n6, hF.n7, fun c y hc hy => hm1 c y (hF.old c y hc hy) (hoff c (hws.2 _ _ hy).2), by omega⟩⟩
          · have e1 : ints (gone (now + 1) (Z.take i) ++ [z.1]) = ints (gone (now + 1) (Z.take i)) ++ [.int .i64 z.1] := by simp [ints]
            have e2 : (gone (now + 1) (Z.take i) ++ [z.1]).length = (gone (now + 1) (Z.take i)).length + 1 := by simp
            rw [f1, e1, e2]; exact o5'
          · rcases hb1 b hb with h' | h'
            · omega
            · exact hF.n5 b h'
        · simp -implicitDefEqProofs (disch := first | omega | (simp only [St.set_n, St.up_n, List.length_cons, List.length_nil]; omega)) only [go_sem, Nat.reduceAdd, Nat.reduceMul, Nat.reduceSub, Int.reduceAdd, Int.reduceMul, Int.reduceSub, Int.reduceNeg, Int.reduceToNat, q0, q6, q7, q8, hrt, hlt, m2, m3, g2, g3, hg]
          refine appF_one (sz := 1) (bts := 8) (cs := ints ((stay (now + 1) (Z.take i)).map fun z => z.1)) (ys := [.int .i64 z.1]) hwt hF.o6 se28 kd28 zr3 rfl (by omega) rfl rfl (by omega) fun A' C' t1 hC' o6' hw1 hk1 hm1 hb1 hn1 => ?_
          have hoff6 : ∀ c, c < s.n → blk w6 ≠ some c := fun c hc e => by have := hF.n6 c e; omega
          have hoff7 : ∀ c, c < s.n → blk w7 ≠ some c := fun c hc e => by have := hF.n7 c e; omega
          obtain ⟨o5', d65⟩ := hk1 _ _ _ _ _ hF.o5 (fun b hb e => hF.d56 b e hb)
          obtain ⟨o7', d67⟩ := hk1 _ _ _ _ _ hF.o7 hF.d67
          have hsn := hF.sn
          have f1 := gone_snoc (now := now + 1) (Z := Z.take i) (z := z)
          have f2 := stay_snoc (now := now + 1) (Z := Z.take i) (z := z)
          rw [if_neg hg, ← take_snoc hz] at f1 f2
          have hE1 := hF.er.keep fun c x hc hx => hm1 c x hx (hoff6 c (hlow c hc))
          have hrt1 := hE1.root
          have m31 := hm1 _ _ m3 (hoff6 _ (hlow _ (.inr (.inr (.inr rfl)))))
          simp -implicitDefEqProofs (disch := first | omega | (simp only [St.set_n, St.up_n, List.length_cons, List.length_nil]; omega)) only [go_sem, Nat.reduceAdd, Nat.reduceMul, Nat.reduceSub, Int.reduceAdd, Int.reduceMul, Int.reduceSub, Int.reduceNeg, Int.reduceToNat, q0, q7, q8, hrt1, m31, g3]
          refine appF_one (sz := 1) (bts := 8) (cs := ints ((stay (now + 1) (Z.take i)).map fun z => z.2)) (ys := [.int .i64 z.2]) hw1 o7' se28 kd28 zr3 rfl (by omega) rfl rfl (by omega) fun A'' C'' t2 hC'' o7'' hw2 hk2 hm2 hb2 hn2 => ?_
          obtain ⟨o5'', d75⟩ := hk2 _ _ _ _ _ o5' (fun b hb e => hF.d57 b e hb)
          obtain ⟨o6'', d76⟩ := hk2 _ _ _ _ _ o6' (fun b hb e => d67 b e hb)
          simp -implicitDefEqProofs (disch := first | omega | (simp only [St.set_n, St.up_n, List.length_cons, List.length_nil]; omega)) only [go_sem, Nat.reduceAdd, Nat.reduceMul, Nat.reduceSub, Int.reduceAdd, Int.reduceMul, Int.reduceSub, Int.reduceNeg, Int.reduceToNat, q8]
          refine ⟨Z.length - (i + 1), by omega, i + 1, w5, .slice A' ((stay (now + 1) (Z.take i)).length + 1) C', .slice A'' ((stay (now + 1) (Z.take i)).length + 1) C'', rfl, by omega, ⟨by simp -implicitDefEqProofs (disch := first | omega | (simp only [St.set_n, St.up_n, List.length_cons, List.length_nil]; omega)) only [go_sem, Nat.reduceAdd, Nat.reduceMul, Nat.reduceSub, Int.reduceAdd, Int.reduceMul, Int.reduceSub, Int.reduceNeg, Int.reduceToNat, q0], by simp -implicitDefEqProofs (disch := first | omega | (simp only [St.set_n, St.up_n, List.length_cons, List.length_nil]; omega)) only [go_sem, Nat.reduceAdd, Nat.reduceMul, Nat.reduceSub, Int.reduceAdd, Int.reduceMul, Int.reduceSub, Int.reduceNeg, Int.reduceToNat, q5], by simp -implicitDefEqProofs (disch := first | omega | (simp only [St.set_n, St.up_n, List.length_cons, List.length_nil]; omega)) only [go_sem, Nat.reduceAdd, Nat.reduceMul, Nat.reduceSub, Int.reduceAdd, Int.reduceMul, Int.reduceSub, Int.reduceNeg, Int.reduceToNat], by simp -implicitDefEqProofs (disch := first | omega | (simp only [St.set_n, St.up_n, List.length_cons, List.length_nil]; omega)) only [go_sem, Nat.reduceAdd, Nat.reduceMul, Nat.reduceSub, Int.reduceAdd, Int.reduceMul, Int.reduceSub, Int.reduceNeg, Int.reduceToNat], by simp -implicitDefEqProofs (disch := first | omega | (simp only [St.set_n, St.up_n, List.length_cons, List.length_nil]; omega)) only [go_sem, Nat.reduceAdd, Nat.reduceMul, Nat.reduceSub, Int.reduceAdd, Int.reduceMul, Int.reduceSub, Int.reduceNeg, Int.reduceToNat]; rfl, by simp -implicitDefEqProofs (disch := first | omega | (simp only [St.set_n, St.up_n, List.length_cons, List.length_nil]; omega)) only [go_sem, Nat.reduceAdd, Nat.reduceMul, Nat.reduceSub, Int.reduceAdd, Int.reduceMul, Int.reduceSub, Int.reduceNeg, Int.reduceToNat, hd]⟩, ⟨hE1.keep fun c x hc hx => hm2 c x hx (hoff7 c (hlow c hc)), by rw [f1]; exact o5'', ?_, ?_, fun b hb e => d65 b e hb, fun b hb e => d75 b e hb, fun b hb e => d76 b e hb, hF.n5, fun b hb => ?_, fun b hb => ?_, fun c y hc hy => hm2 c y (hm1 c y (hF.old c y hc hy) (hoff6 c (hws.2 _ _ hy).2)) (hoff7 c (hws.2 _ _ hy).2), by omega⟩⟩
          · have e1 : ints ((stay (now + 1) (Z.take i) ++ [z]).map fun z => z.1) = ints ((stay (now + 1) (Z.take i)).map fun z => z.1) ++ [.int .i64 z.1] := by simp [ints]
            have e2 : (stay (now + 1) (Z.take i) ++ [z]).length = (stay (now + 1) (Z.take i)).length + 1 := by simp
            rw [f2, e1, e2]; exact o6''
          · have e1 : ints ((stay (now + 1) (Z.take i) ++ [z]).map fun z => z.2) = ints ((stay (now + 1) (Z.take i)).map fun z => z.2) ++ [.int .i64 z.2] := by simp [ints]
            have e2 : (stay (now + 1) (Z.take i) ++ [z]).length = (stay (now + 1) (Z.take i)).length + 1 := by simp
            rw [f2, e1, e2]; exact o7''
          · rcases hb1 b hb with h' | h'
            · omega
            · exact hF.n6 b h'
          · rcases hb2 b hb with h' | h'
            · omega
            · exact hF.n7 b h'
      · have hie : i = Z.length := by omega
        subst hie
        rw [List.take_length] at hF
        have hp6 : blk w6 ≠ some p := fun e => by have := hF.n6 p e; omega
        have hp7 : blk w7 ≠ some p := fun e => by have := hF.n7 p e; omega
        have hp5 : blk w5 ≠ some p := fun e => by have := hF.n5 p e; omega
        obtain ⟨A6, C6, rfl, _⟩ := hF.o6.is
        obtain ⟨A7, C7, rfl, _⟩ := hF.o7.is
        simp -implicitDefEqProofs (disch := first | omega | (simp only [St.set_n, St.up_n, List.length_cons, List.length_nil]; omega)) only [go_sem, Nat.reduceAdd, Nat.reduceMul, Nat.reduceSub, Int.reduceAdd, Int.reduceMul, Int.reduceSub, Int.reduceNeg, Int.reduceToNat, q0, q5, q6, q7, q8, hrt, hlt, hd]
        refine hK _ _ _ _ ⟨?_, hF.er.o1.keepR fun b o hb ho => ?_, hF.o6.keepR fun b o hb ho => ?_, hF.o7.keepR fun b o hb ho => ?_, fun b hb e => ?_, fun b hb e => ?_, hF.d67, h.n1, hp6, hp7⟩ (hF.o5.keepR fun b o hb ho => ?_) (fun c y hc hy => ?_) (fun c hc => ?_) (show s.n ≤ t.n from hF.sn)
        · simp -implicitDefEqProofs (disch := first | omega | (simp only [St.set_n, St.up_n, List.length_cons, List.length_nil]; omega)) only [go_sem, Nat.reduceAdd, Nat.reduceMul, Nat.reduceSub, Int.reduceAdd, Int.reduceMul, Int.reduceSub, Int.reduceNeg, Int.reduceToNat]
        · have : b ≠ p := fun e => h.n1 (e ▸ hb)
          simp -implicitDefEqProofs (disch := first | omega | (simp only [St.set_n, St.up_n, List.length_cons, List.length_nil]; omega)) only [go_sem, Nat.reduceAdd, Nat.reduceMul, Nat.reduceSub, Int.reduceAdd, Int.reduceMul, Int.reduceSub, Int.reduceNeg, Int.reduceToNat, ho]
        · have : b ≠ p := fun e => hp6 (e ▸ hb)
          simp -implicitDefEqProofs (disch := first | omega | (simp only [St.set_n, St.up_n, List.length_cons, List.length_nil]; omega)) only [go_sem, Nat.reduceAdd, Nat.reduceMul, Nat.reduceSub, Int.reduceAdd, Int.reduceMul, Int.reduceSub, Int.reduceNeg, Int.reduceToNat, ho]
        · have : b ≠ p := fun e => hp7 (e ▸ hb)
          simp -implicitDefEqProofs (disch := first | omega | (simp only [St.set_n, St.up_n, List.length_cons, List.length_nil]; omega)) only [go_sem, Nat.reduceAdd, Nat.reduceMul, Nat.reduceSub, Int.reduceAdd, Int.reduceMul, Int.reduceSub, Int.reduceNeg, Int.reduceToNat, ho]
        · have := hlow b (.inr (.inl hb)); have := hF.n6 b e; omega
        · have := hlow b (.inr (.inl hb)); have := hF.n7 b e; omega
        · have : b ≠ p := fun e => hp5 (e ▸ hb)
          simp -implicitDefEqProofs (disch := first | omega | (simp only [St.set_n, St.up_n, List.length_cons, List.length_nil]; omega)) only [go_sem, Nat.reduceAdd, Nat.reduceMul, Nat.reduceSub, Int.reduceAdd, Int.reduceMul, Int.reduceSub, Int.reduceNeg, Int.reduceToNat, ho]
        · have hcp : c ≠ p := fun e => hc (.inl e)
          have := hF.old c y hcp hy
          simp -implicitDefEqProofs (disch := first | omega | (simp only [St.set_n, St.up_n, List.length_cons, List.length_nil]; omega)) only [go_sem, Nat.reduceAdd, Nat.reduceMul, Nat.reduceSub, Int.reduceAdd, Int.reduceMul, Int.reduceSub, Int.reduceNeg, Int.reduceToNat, this]
        · rcases hc with hc | hc | hc | hc
          · exact .inr (.inl hc)
          · exact .inr (.inr (.inl hc))
          · exact .inl (hF.n6 c hc)
          · exact .inl (hF.n7 c hc)
end
end Go.Proofs.Ytgcojbgkenndhaa
