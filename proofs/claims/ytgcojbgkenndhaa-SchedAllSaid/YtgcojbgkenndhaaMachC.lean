/- Threads that take turns: chains of functions. -/
import Derived.Test.YtgcojbgkenndhaaMachV
namespace Go.Proofs.Ytgcojbgkenndhaa
set_option linter.unusedSimpArgs false
set_option linter.unusedVariables false
set_option maxRecDepth 100000
open Go Go.RowKit
section
variable {B : World} {σ τ : St} {K : Value → St → Prop}
set_option maxHeartbeats 4000000 in
theorem fn_clone {vs : List Value} {v : Value} (hl : vs.length ≤ 100000) (hv : ∀ u ∈ vs, StV u) (ho : FcV B σ vs v) (hk0 : ∀ k s, s = (σ.set σ.n k).up (σ.n + 1) → fc B s 1 v = some (vs.length, vs))
    (hK : ∀ v' s, Own s 23 1 vs vs.length v' → (∀ c, c < σ.n → s.m c = σ.m c) → σ.n ≤ s.n → (∀ b, blk v' = some b → σ.n ≤ b) → K v' s) : Fn Try.prog B 66 #[v] σ K := by
  obtain ⟨⟨A, c, rfl⟩, hfc⟩ := ho
  refine Fn.of is66 (by simp) fun hwf => ?_
  simp only [b66, Try.f66, Option.getD_some]
  cases A with
  | none =>
    simp -implicitDefEqProofs (disch := first | omega | (simp only [St.set_n, St.up_n, List.length_cons, List.length_nil]; omega)) only [go_sem, Nat.reduceAdd, Nat.reduceMul, Nat.reduceSub, Int.reduceAdd, Int.reduceMul, Int.reduceSub, Int.reduceNeg, Int.reduceToNat]
    simp only [fc, Option.some.injEq, Prod.mk.injEq, true_and] at hfc
    subst hfc
    exact hK _ _ Own.nil (fun c hc => rfl) (Nat.le_refl _) (fun b hb => by cases hb)
  | some ad =>
    simp -implicitDefEqProofs (disch := first | omega | (simp only [St.set_n, St.up_n, List.length_cons, List.length_nil]; omega)) only [go_sem, Nat.reduceAdd, Nat.reduceMul, Nat.reduceSub, Int.reduceAdd, Int.reduceMul, Int.reduceSub, Int.reduceNeg, Int.reduceToNat]
    refine app_own2 se115 (.inr kd115) zr23 rfl (by omega) (cs := []) (n := 0) (Own.of' (sp := []) (by simp -implicitDefEqProofs (disch := first | omega | (simp only [St.set_n, St.up_n, List.length_cons, List.length_nil]; omega)) only [go_sem, Nat.reduceAdd, Nat.reduceMul, Nat.reduceSub, Int.reduceAdd, Int.reduceMul, Int.reduceSub, Int.reduceNeg, Int.reduceToNat]) rfl (Nat.le_refl _) rfl) (hk0 _ _ rfl) (by omega) (ones_st hv) (by omega) fun v' s h1 h2 h3 h4 => ?_
    simp only [St.up_n, Nat.zero_add, List.nil_append] at h1 h2 h4
    simp -implicitDefEqProofs (disch := first | omega | (simp only [St.set_n, St.up_n, List.length_cons, List.length_nil]; omega)) only [go_sem, Nat.reduceAdd, Nat.reduceMul, Nat.reduceSub, Int.reduceAdd, Int.reduceMul, Int.reduceSub, Int.reduceNeg, Int.reduceToNat]
    have hb : ∀ b, blk v' = some b → σ.n ≤ b := fun b hb => by
      rcases h2 b hb with h | h
      · omega
      · simp only [blk, Option.some.injEq] at h; omega
    refine hK _ _ h1 (fun c hc => ?_) (by omega) hb
    have hne : blk v' ≠ some c := fun e => by have := hb c e; omega
    rw [h3 c hne]
    simp -implicitDefEqProofs (disch := first | omega | (simp only [St.set_n, St.up_n, List.length_cons, List.length_nil]; omega)) only [go_sem, Nat.reduceAdd, Nat.reduceMul, Nat.reduceSub, Int.reduceAdd, Int.reduceMul, Int.reduceSub, Int.reduceNeg, Int.reduceToNat]
theorem fn_nil {v : Value} (hv : StV v) (hK : K (.bool (!isFn v)) σ) : Fn Try.prog B 67 #[v] σ K := by
  refine Fn.of is67 (by simp) fun hwf => ?_
  rcases hv with rfl | ⟨f, c1, c2, rfl⟩
  · simp only [b67, Try.f67, Option.getD_some]
    simp -implicitDefEqProofs (disch := first | omega | (simp only [St.set_n, St.up_n, List.length_cons, List.length_nil]; omega)) only [go_sem, Nat.reduceAdd, Nat.reduceMul, Nat.reduceSub, Int.reduceAdd, Int.reduceMul, Int.reduceSub, Int.reduceNeg, Int.reduceToNat]
    exact hK
  · simp only [b67, Try.f67, Option.getD_some]
    simp -implicitDefEqProofs (disch := first | omega | (simp only [St.set_n, St.up_n, List.length_cons, List.length_nil]; omega)) only [go_sem, Nat.reduceAdd, Nat.reduceMul, Nat.reduceSub, Int.reduceAdd, Int.reduceMul, Int.reduceSub, Int.reduceNeg, Int.reduceToNat]
    exact hK
structure IxF (A : Option Addr) (n c i : Nat) (e : Fr) : Prop where
  v0 : e.v 0 = .slice A n c
  v1 : e.v 1 = .func (.func 67) #[] #[]
  v7 : e.v 7 = .int .i64 n
  v8 : e.v 8 = .int .i64 i
  d : e.d = []
theorem fn_index {vs : List Value} {v : Value} (hl : vs.length ≤ 100000) (hv : ∀ u ∈ vs, isFn u = true ∧ StV u) (ho : Own σ 23 1 vs vs.length v) (hK : K (.int .i64 (-1)) σ) :
    Fn Try.prog B 73 #[v, .func (.func 67) #[] #[]] σ K := by
  obtain ⟨A, c, rfl, hc⟩ := ho.is
  refine Fn.of is73 (by simp) fun hwf => ?_
  simp only [b73, Try.f73, Option.getD_some]
  simp -implicitDefEqProofs (disch := first | omega | (simp only [St.set_n, St.up_n, List.length_cons, List.length_nil]; omega)) only [go_sem, Nat.reduceAdd, Nat.reduceMul, Nat.reduceSub, Int.reduceAdd, Int.reduceMul, Int.reduceSub, Int.reduceNeg, Int.reduceToNat]
  refine loop_rule (fun m e s => ∃ i : Nat, m = vs.length - i ∧ i ≤ vs.length ∧ IxF A vs.length c i e ∧ s = σ) vs.length ?_ ?_
  · exact ⟨0, by omega, by omega, ⟨by simp -implicitDefEqProofs (disch := first | omega | (simp only [St.set_n, St.up_n, List.length_cons, List.length_nil]; omega)) only [go_sem, Nat.reduceAdd, Nat.reduceMul, Nat.reduceSub, Int.reduceAdd, Int.reduceMul, Int.reduceSub, Int.reduceNeg, Int.reduceToNat], by simp -implicitDefEqProofs (disch := first | omega | (simp only [St.set_n, St.up_n, List.length_cons, List.length_nil]; omega)) only [go_sem, Nat.reduceAdd, Nat.reduceMul, Nat.reduceSub, Int.reduceAdd, Int.reduceMul, Int.reduceSub, Int.reduceNeg, Int.reduceToNat], by simp -implicitDefEqProofs (disch := first | omega | (simp only [St.set_n, St.up_n, List.length_cons, List.length_nil]; omega)) only [go_sem, Nat.reduceAdd, Nat.reduceMul, Nat.reduceSub, Int.reduceAdd, Int.reduceMul, Int.reduceSub, Int.reduceNeg, Int.reduceToNat], by simp -implicitDefEqProofs (disch := first | omega | (simp only [St.set_n, St.up_n, List.length_cons, List.length_nil]; omega)) only [go_sem, Nat.reduceAdd, Nat.reduceMul, Nat.reduceSub, Int.reduceAdd, Int.reduceMul, Int.reduceSub, Int.reduceNeg, Int.reduceToNat]; rfl, by simp -implicitDefEqProofs (disch := first | omega | (simp only [St.set_n, St.up_n, List.length_cons, List.length_nil]; omega)) only [go_sem, Nat.reduceAdd, Nat.reduceMul, Nat.reduceSub, Int.reduceAdd, Int.reduceMul, Int.reduceSub, Int.reduceNeg, Int.reduceToNat]⟩, rfl⟩
  · rintro m e s hws ⟨i, hm, hi, ⟨q0, q1, q7, q8, hd⟩, rfl⟩
    by_cases hlt : (i : Int) < vs.length
    · obtain ⟨x, hx⟩ : ∃ x, vs[i]? = some x := ⟨vs[i]'(by omega), List.getElem?_eq_getElem (by omega)⟩
      obtain ⟨b1, c1, sp1, e1, _, m1, _, _⟩ := ho.has (by omega)
      cases e1
      have g1 := vs_get hx sp1
      obtain ⟨hf, hst⟩ := hv x (List.mem_of_getElem? hx)
      simp -implicitDefEqProofs (disch := first | omega | (simp only [St.set_n, St.up_n, List.length_cons, List.length_nil]; omega)) only [go_sem, Nat.reduceAdd, Nat.reduceMul, Nat.reduceSub, Int.reduceAdd, Int.reduceMul, Int.reduceSub, Int.reduceNeg, Int.reduceToNat, q0, q1, q7, q8, hlt, m1, g1]
      refine callF_of (fn_nil hst ?_)
      rw [hf]
      simp -implicitDefEqProofs (disch := first | omega | (simp only [St.set_n, St.up_n, List.length_cons, List.length_nil]; omega)) only [go_sem, Nat.reduceAdd, Nat.reduceMul, Nat.reduceSub, Int.reduceAdd, Int.reduceMul, Int.reduceSub, Int.reduceNeg, Int.reduceToNat, q8]
      exact ⟨vs.length - (i + 1), by omega, i + 1, rfl, by omega, ⟨by simp -implicitDefEqProofs (disch := first | omega | (simp only [St.set_n, St.up_n, List.length_cons, List.length_nil]; omega)) only [go_sem, Nat.reduceAdd, Nat.reduceMul, Nat.reduceSub, Int.reduceAdd, Int.reduceMul, Int.reduceSub, Int.reduceNeg, Int.reduceToNat, q0], by simp -implicitDefEqProofs (disch := first | omega | (simp only [St.set_n, St.up_n, List.length_cons, List.length_nil]; omega)) only [go_sem, Nat.reduceAdd, Nat.reduceMul, Nat.reduceSub, Int.reduceAdd, Int.reduceMul, Int.reduceSub, Int.reduceNeg, Int.reduceToNat, q1], by simp -implicitDefEqProofs (disch := first | omega | (simp only [St.set_n, St.up_n, List.length_cons, List.length_nil]; omega)) only [go_sem, Nat.reduceAdd, Nat.reduceMul, Nat.reduceSub, Int.reduceAdd, Int.reduceMul, Int.reduceSub, Int.reduceNeg, Int.reduceToNat, q7], by simp -implicitDefEqProofs (disch := first | omega | (simp only [St.set_n, St.up_n, List.length_cons, List.length_nil]; omega)) only [go_sem, Nat.reduceAdd, Nat.reduceMul, Nat.reduceSub, Int.reduceAdd, Int.reduceMul, Int.reduceSub, Int.reduceNeg, Int.reduceToNat]; simp, by simp -implicitDefEqProofs (disch := first | omega | (simp only [St.set_n, St.up_n, List.length_cons, List.length_nil]; omega)) only [go_sem, Nat.reduceAdd, Nat.reduceMul, Nat.reduceSub, Int.reduceAdd, Int.reduceMul, Int.reduceSub, Int.reduceNeg, Int.reduceToNat, hd]⟩⟩
    · simp -implicitDefEqProofs (disch := first | omega | (simp only [St.set_n, St.up_n, List.length_cons, List.length_nil]; omega)) only [go_sem, Nat.reduceAdd, Nat.reduceMul, Nat.reduceSub, Int.reduceAdd, Int.reduceMul, Int.reduceSub, Int.reduceNeg, Int.reduceToNat, q7, q8, hlt, hd]
      exact hK
theorem fn_delete {vs : List Value} {v : Value} (hl : vs.length ≤ 100000) (hv : ∀ u ∈ vs, isFn u = true ∧ StV u) (ho : Own σ 23 1 vs vs.length v) (hK : K v σ) :
    Fn Try.prog B 65 #[v, .func (.func 67) #[] #[]] σ K := by
  refine Fn.of is65 (by simp) fun hwf => ?_
  simp only [b65, Try.f65, Option.getD_some]
  simp -implicitDefEqProofs (disch := first | omega | (simp only [St.set_n, St.up_n, List.length_cons, List.length_nil]; omega)) only [go_sem, Nat.reduceAdd, Nat.reduceMul, Nat.reduceSub, Int.reduceAdd, Int.reduceMul, Int.reduceSub, Int.reduceNeg, Int.reduceToNat]
  refine callF_of (fn_index hl hv ho ?_)
  simp -implicitDefEqProofs (disch := first | omega | (simp only [St.set_n, St.up_n, List.length_cons, List.length_nil]; omega)) only [go_sem, Nat.reduceAdd, Nat.reduceMul, Nat.reduceSub, Int.reduceAdd, Int.reduceMul, Int.reduceSub, Int.reduceNeg, Int.reduceToNat]
  exact hK
/-- A chain of functions: none, or a closure over a slice of its own. -/
def ChV (n0 : Nat) (fs : List Value) (v : Value) (s : St) : Prop :=
  (fs = [] ∧ v = .nilFunc) ∨ (fs ≠ [] ∧ ∃ x1 b cap sp, n0 ≤ x1 ∧ n0 ≤ b ∧ x1 ≠ b ∧ v = .func (.func 68) #[] #[.pointer (some ⟨x1, 0, none⟩)] ∧
    s.m x1 = some (.raw (.cells #[.slice (some ⟨b, 0, none⟩) fs.length cap] 115 (0, 0))) ∧ fs.length ≤ cap ∧ s.m b = some (.raw (.cells (fs ++ sp).toArray 23 (0, 0))) ∧ (fs ++ sp).length = cap)
set_option maxHeartbeats 4000000 in
theorem chain_of {fs : List Value} {v : Value} (hl : fs.length ≤ 100000) (hv : ∀ u ∈ fs, isFn u = true ∧ StV u) (ho : FcV B σ fs v) (hk0 : ∀ s, (∀ c, c < σ.n → s.m c = σ.m c) → fc B s 1 v = some (fs.length, fs))
    (hK : ∀ v' s, ChV σ.n fs v' s → (∀ c, c < σ.n → s.m c = σ.m c) → σ.n ≤ s.n → K v' s) : Fn Try.prog B 47 #[v] σ K := by
  obtain ⟨⟨A, c, rfl⟩, hfc⟩ := ho
  refine Fn.of is47 (by simp) fun hwf => ?_
  simp only [b47, Try.f47, Option.getD_some]
  simp -implicitDefEqProofs (disch := first | omega | (simp only [St.set_n, St.up_n, List.length_cons, List.length_nil]; omega)) only [go_sem, Nat.reduceAdd, Nat.reduceMul, Nat.reduceSub, Int.reduceAdd, Int.reduceMul, Int.reduceSub, Int.reduceNeg, Int.reduceToNat]
  refine callF_wf (fn_clone hl (fun u hu => (hv u hu).2) ⟨⟨_, _, rfl⟩, hk0 _ fun c hc => by simp -implicitDefEqProofs (disch := first | omega | (simp only [St.set_n, St.up_n, List.length_cons, List.length_nil]; omega)) only [go_sem, Nat.reduceAdd, Nat.reduceMul, Nat.reduceSub, Int.reduceAdd, Int.reduceMul, Int.reduceSub, Int.reduceNeg, Int.reduceToNat]⟩ (fun k s hs => hk0 s fun c hc => by subst hs; simp only [St.up_n]; simp -implicitDefEqProofs (disch := first | omega | (simp only [St.set_n, St.up_n, List.length_cons, List.length_nil]; omega)) only [go_sem, Nat.reduceAdd, Nat.reduceMul, Nat.reduceSub, Int.reduceAdd, Int.reduceMul, Int.reduceSub, Int.reduceNeg, Int.reduceToNat]) fun v' s o1 hold hn hb hws => ?_)
  simp only [St.up_n] at hold hn hb
  have hx : s.m σ.n = some (.raw (.cells #[.slice A fs.length c] 115 (0, 0))) := by rw [hold _ (by omega)]; simp -implicitDefEqProofs (disch := first | omega | (simp only [St.set_n, St.up_n, List.length_cons, List.length_nil]; omega)) only [go_sem, Nat.reduceAdd, Nat.reduceMul, Nat.reduceSub, Int.reduceAdd, Int.reduceMul, Int.reduceSub, Int.reduceNeg, Int.reduceToNat]
  have hold' : ∀ c, c < σ.n → s.m c = σ.m c := fun c hc => by rw [hold c (by omega)]; simp -implicitDefEqProofs (disch := first | omega | (simp only [St.set_n, St.up_n, List.length_cons, List.length_nil]; omega)) only [go_sem, Nat.reduceAdd, Nat.reduceMul, Nat.reduceSub, Int.reduceAdd, Int.reduceMul, Int.reduceSub, Int.reduceNeg, Int.reduceToNat]
  simp -implicitDefEqProofs (disch := first | omega | (simp only [St.set_n, St.up_n, List.length_cons, List.length_nil]; omega)) only [go_sem, Nat.reduceAdd, Nat.reduceMul, Nat.reduceSub, Int.reduceAdd, Int.reduceMul, Int.reduceSub, Int.reduceNeg, Int.reduceToNat]
  refine callF_of (fn_delete hl hv o1 ?_)
  obtain ⟨A1, c1, rfl, hc1⟩ := o1.is
  by_cases h0 : (fs.length : Int) = 0
  · simp -implicitDefEqProofs (disch := first | omega | (simp only [St.set_n, St.up_n, List.length_cons, List.length_nil]; omega)) only [go_sem, Nat.reduceAdd, Nat.reduceMul, Nat.reduceSub, Int.reduceAdd, Int.reduceMul, Int.reduceSub, Int.reduceNeg, Int.reduceToNat, hx, h0]
    have hf0 : fs = [] := List.length_eq_zero_iff.1 (by omega)
    refine hK _ _ (.inl ⟨hf0, rfl⟩) (fun c hc => ?_) (by simp only [St.set_n]; omega)
    have := hold' c hc
    simp -implicitDefEqProofs (disch := first | omega | (simp only [St.set_n, St.up_n, List.length_cons, List.length_nil]; omega)) only [go_sem, Nat.reduceAdd, Nat.reduceMul, Nat.reduceSub, Int.reduceAdd, Int.reduceMul, Int.reduceSub, Int.reduceNeg, Int.reduceToNat, this]
  · obtain ⟨b, c2, sp, e1, hc2, mb, lb, _⟩ := o1.has (by omega)
    cases e1
    have hbn := hb b rfl
    simp -implicitDefEqProofs (disch := first | omega | (simp only [St.set_n, St.up_n, List.length_cons, List.length_nil]; omega)) only [go_sem, Nat.reduceAdd, Nat.reduceMul, Nat.reduceSub, Int.reduceAdd, Int.reduceMul, Int.reduceSub, Int.reduceNeg, Int.reduceToNat, hx, h0]
    refine hK _ _ (.inr ⟨fun e => h0 (by rw [e]; rfl), σ.n, b, c1, sp, Nat.le_refl _, by omega, by omega, rfl, by simp -implicitDefEqProofs (disch := first | omega | (simp only [St.set_n, St.up_n, List.length_cons, List.length_nil]; omega)) only [go_sem, Nat.reduceAdd, Nat.reduceMul, Nat.reduceSub, Int.reduceAdd, Int.reduceMul, Int.reduceSub, Int.reduceNeg, Int.reduceToNat], hc1, by simp -implicitDefEqProofs (disch := first | omega | (simp only [St.set_n, St.up_n, List.length_cons, List.length_nil]; omega)) only [go_sem, Nat.reduceAdd, Nat.reduceMul, Nat.reduceSub, Int.reduceAdd, Int.reduceMul, Int.reduceSub, Int.reduceNeg, Int.reduceToNat, mb], by omega⟩) (fun c hc => ?_) (by simp only [St.set_n]; omega)
    have := hold' c hc
    simp -implicitDefEqProofs (disch := first | omega | (simp only [St.set_n, St.up_n, List.length_cons, List.length_nil]; omega)) only [go_sem, Nat.reduceAdd, Nat.reduceMul, Nat.reduceSub, Int.reduceAdd, Int.reduceMul, Int.reduceSub, Int.reduceNeg, Int.reduceToNat, this]
set_option maxHeartbeats 4000000 in
theorem chain_call {x1 b cap g : Nat} {sp c1 c2} {fs : List Value} {Q : Bool → St → Prop} (hx : σ.m x1 = some (.raw (.cells #[.slice (some ⟨b, 0, none⟩) (fs.length + 1) cap] 115 (0, 0)))) (hb : σ.m b = some (.raw (.cells (.func (.func g) c1 c2 :: (fs ++ sp)).toArray 23 (0, 0))))
    (hl : fs.length ≤ 100000) (hcap : fs.length + 1 ≤ cap) (hv : ∀ u ∈ fs, isFn u = true ∧ StV u)
    (hcall : Fn Try.prog B g (c1 ++ c2) σ fun r s => ∃ ok, r = .bool ok ∧ Q ok s ∧ s.m x1 = σ.m x1 ∧ s.m b = σ.m b)
    (hno : ∀ s, Q false s → K (.tuple #[.nilFunc, .bool false]) s) (hyes : ∀ s v' s', s.wf B → s'.wf B → Q true s → ChV s.n fs v' s' → (∀ c, c < s.n → s'.m c = s.m c) → s.n ≤ s'.n → K (.tuple #[v', .bool true]) s') :
    Fn Try.prog B 68 #[.pointer (some ⟨x1, 0, none⟩)] σ K := by
  refine Fn.of is68 (by simp) fun hwf => ?_
  simp only [b68, Try.f68, Option.getD_some]
  simp -implicitDefEqProofs (disch := first | omega | (simp only [St.set_n, St.up_n, List.length_cons, List.length_nil]; omega)) only [go_sem, Nat.reduceAdd, Nat.reduceMul, Nat.reduceSub, Int.reduceAdd, Int.reduceMul, Int.reduceSub, Int.reduceNeg, Int.reduceToNat, hx, hb]
  refine callF_wf (hcall.mono ?_)
  rintro r s ⟨ok, rfl, hQ, h1, h2⟩ hws
  rw [hx] at h1
  rw [hb] at h2
  cases ok with
  | false =>
    simp -implicitDefEqProofs (disch := first | omega | (simp only [St.set_n, St.up_n, List.length_cons, List.length_nil]; omega)) only [go_sem, Nat.reduceAdd, Nat.reduceMul, Nat.reduceSub, Int.reduceAdd, Int.reduceMul, Int.reduceSub, Int.reduceNeg, Int.reduceToNat]
    exact hno s hQ
  | true =>
    have hbn := (hws.2 _ _ h2).2
    have key : ∀ s', s'.m b = s.m b → fc B s' 1 (.slice (slA (some ⟨b, 0, none⟩) cap 1 1) fs.length (cap - 1)) = some (fs.length, fs) := fun s' hs => by
      rw [← hs] at h2
      by_cases hc1 : cap = 1
      · have hf0 : fs = [] := List.length_eq_zero_iff.1 (by omega)
        subst hf0
        simp only [slA, hc1, if_true]
        rfl
      · rw [slA_mk hc1]
        have := rds_cells (B := B) (σ := s') (o := 0 + 1 * 1) h2 fs 0 (fun j v hj => by
          rw [List.getElem?_toArray]
          have hj' := (List.getElem?_eq_some_iff.1 hj).1
          have e : 0 + 1 * 1 + 0 + j = j + 1 := by omega
          rw [e, List.getElem?_cons_succ, List.getElem?_append_left hj']; exact hj)
        simp only [fc, Nat.mul_one, this, Option.map_some]
    simp -implicitDefEqProofs (disch := first | omega | (simp only [St.set_n, St.up_n, List.length_cons, List.length_nil]; omega)) only [go_sem, Nat.reduceAdd, Nat.reduceMul, Nat.reduceSub, Int.reduceAdd, Int.reduceMul, Int.reduceSub, Int.reduceNeg, Int.reduceToNat, h1]
    rw [Nat.add_sub_cancel]
    refine callF_wf (chain_of hl hv ⟨⟨_, _, rfl⟩, key s rfl⟩ (fun s' h => key s' (h b hbn)) fun v' s' hC hold hn hws' => ?_)
    simp -implicitDefEqProofs (disch := first | omega | (simp only [St.set_n, St.up_n, List.length_cons, List.length_nil]; omega)) only [go_sem, Nat.reduceAdd, Nat.reduceMul, Nat.reduceSub, Int.reduceAdd, Int.reduceMul, Int.reduceSub, Int.reduceNeg, Int.reduceToNat]
    exact hyes s v' s' hws hws' hQ hC hold hn
/-- 'Chain(nil, nil)'. -/
theorem opS_clear {P : Program} {d : Option Tmp} {pos : String} {af : Array Edge} {ty t el : TypeId} {x : Operand} {e : Fr} {K : Fr → St → Prop} {a : Addr} {n c s bts : Nat} {z : Value} {σ' : St} (hx : ev e x = .slice (some a) (n + 1) c) (hse : se P t = some (el, s, bts)) (hz : zr P el = some z)
    (hw : wrs σ a (Builtin.zeroCells z.cells (n + 1)).toList = some σ') (h : K (e.put d (.tuple #[])) σ') : opS P B ⟨d, .call ⟨.builtin .clear, #[x], #[t]⟩, ty, pos, af, none⟩ K e σ := by
  show OpK P B (.call ⟨.builtin .clear, #[x], #[t]⟩) ty (ev e) σ fun v σ' => K (e.put d v) σ'
  intro w hwr
  obtain ⟨i, hu, hi, rfl, rfl⟩ := se_spec hse
  obtain ⟨w', hw', hr⟩ := run_wrs (P := P) hwr hw
  have : (execOp (ev e) { dst := none, op := .call ⟨.builtin .clear, #[x], #[t]⟩, type := ty, pos := "", after := #[], guard := none }).run P w = .ok (.value (.tuple #[])) w' := by
    simp only [execOp, resolve, List.map_toArray, List.map_cons, List.map_nil, Sem.run_bind, Sem.run_pure, Result.andThen_ok, invoke]
    simp [builtin, Builtin.clear_, run_und hu, hx, run_zr hz, hw']
  rw [this]
  exact ⟨_, hr, h⟩
end
end Go.Proofs.Ytgcojbgkenndhaa
