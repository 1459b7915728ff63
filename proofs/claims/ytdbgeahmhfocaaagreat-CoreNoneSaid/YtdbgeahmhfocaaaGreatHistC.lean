/- Histories: 'Calls', by a walk. -/
import Derived.Test.YtdbgeahmhfocaaaGreatHistE
namespace Go.Proofs.YtdbgeahmhfocaaaGreat
set_option linter.unusedSimpArgs false
set_option linter.unusedVariables false
set_option maxRecDepth 100000
open Go Go.RowKit
section
variable {B : World} {σ τ : St} {K : Value → St → Prop}

theorem cl_cells {l : List Cl} {i : Nat} {c : Cl} (h : l[i]? = some c) (sp : List Value) : (flat fC l ++ sp)[i * 15]? = some (.int .i64 c.th) ∧ (flat fC l ++ sp)[i * 15 + 1]? = some (.int .i64 c.pl) ∧ (flat fC l ++ sp)[i * 15 + 2]? = some (.int .i64 c.op.kind) ∧ (flat fC l ++ sp)[i * 15 + 3]? = some (.int .i64 c.op.sub) ∧ (flat fC l ++ sp)[i * 15 + 4]? = some (.string c.op.text) ∧ (flat fC l ++ sp)[i * 15 + 5]? = some (.string c.op.pay) ∧ (flat fC l ++ sp)[i * 15 + 6]? = some (.bool c.op.keep) ∧ (flat fC l ++ sp)[i * 15 + 7]? = some (.int .i64 c.an.err) ∧ (flat fC l ++ sp)[i * 15 + 8]? = some (.int .i64 c.an.a) ∧ (flat fC l ++ sp)[i * 15 + 9]? = some (.int .i64 c.an.b) ∧ (flat fC l ++ sp)[i * 15 + 10]? = some (.string c.an.topic) ∧ (flat fC l ++ sp)[i * 15 + 11]? = some (.string c.an.pay) ∧ (flat fC l ++ sp)[i * 15 + 12]? = some (.bool c.an.kept) ∧ (flat fC l ++ sp)[i * 15 + 13]? = some (.int .i64 c.fr) ∧ (flat fC l ++ sp)[i * 15 + 14]? = some (.int .i64 c.to) := by
  refine ⟨?_, ?_, ?_, ?_, ?_, ?_, ?_, ?_, ?_, ?_, ?_, ?_, ?_, ?_, ?_⟩
  · exact flat_get fC_len l sp i c 0 _ h rfl
  · exact flat_get fC_len l sp i c 1 _ h rfl
  · exact flat_get fC_len l sp i c 2 _ h rfl
  · exact flat_get fC_len l sp i c 3 _ h rfl
  · exact flat_get fC_len l sp i c 4 _ h rfl
  · exact flat_get fC_len l sp i c 5 _ h rfl
  · exact flat_get fC_len l sp i c 6 _ h rfl
  · exact flat_get fC_len l sp i c 7 _ h rfl
  · exact flat_get fC_len l sp i c 8 _ h rfl
  · exact flat_get fC_len l sp i c 9 _ h rfl
  · exact flat_get fC_len l sp i c 10 _ h rfl
  · exact flat_get fC_len l sp i c 11 _ h rfl
  · exact flat_get fC_len l sp i c 12 _ h rfl
  · exact flat_get fC_len l sp i c 13 _ h rfl
  · exact flat_get fC_len l sp i c 14 _ h rfl
theorem call_open {c : Cl} (hK : ∀ k, σ.n ≤ k → K (.bool (decide (c.to = 0))) (σ.up k)) : Fn Tryz.prog B 46 #[.agg (fC c).toArray] σ K := by
  refine Fn.of' is46 (by simp) fun hwf => ?_
  simp only [b46, Tryz.f46, Option.getD_some]
  simp -implicitDefEqProofs (disch := first | omega | (simp only [St.set_n, St.up_n, List.length_cons, List.length_nil]; omega)) only [go_sem, Nat.reduceAdd, Nat.reduceMul, Nat.reduceSub, Int.reduceAdd, Int.reduceMul, Int.reduceSub, Int.reduceNeg, Int.reduceToNat, fC]
  exact ⟨_, To.same (fun d y h2 h3 => by simp -implicitDefEqProofs (disch := first | omega | (simp only [St.set_n, St.up_n, List.length_cons, List.length_nil]; omega)) only [go_sem, Nat.reduceAdd, Nat.reduceMul, Nat.reduceSub, Int.reduceAdd, Int.reduceMul, Int.reduceSub, Int.reduceNeg, Int.reduceToNat, h3]) hwf, hK _ (by simp only [St.up_n]; omega)⟩
structure IxC (A : Option Addr) (n c i : Nat) (e : Fr) : Prop where
  v0 : e.v 0 = .slice A n c
  v1 : e.v 1 = .func (.func 46) #[] #[]
  v7 : e.v 7 = .int .i64 n
  v8 : e.v 8 = .int .i64 i
  d : e.d = []
theorem call_index {l : List Cl} {v : Value} (hl : l.length ≤ 100000) (ho : Own σ 69 15 (flat fC l) l.length v) (hK : ∀ r : Int, ∀ k, σ.n ≤ k → decide (0 ≤ r) = l.any (fun c => decide (c.to = 0)) → K (.int .i64 r) (σ.up k)) :
    Fn Tryz.prog B 68 #[v, .func (.func 46) #[] #[]] σ K := by
  obtain ⟨A, c, rfl, hc⟩ := ho.is
  refine Fn.of is68 (by simp) fun hwf => ?_
  simp only [b68, Tryz.f68, Option.getD_some]
  simp -implicitDefEqProofs (disch := first | omega | (simp only [St.set_n, St.up_n, List.length_cons, List.length_nil]; omega)) only [go_sem, Nat.reduceAdd, Nat.reduceMul, Nat.reduceSub, Int.reduceAdd, Int.reduceMul, Int.reduceSub, Int.reduceNeg, Int.reduceToNat]
  refine loop_rule (fun m e s => ∃ i k : Nat, m = l.length - i ∧ i ≤ l.length ∧ IxC A l.length c i e ∧ s = σ.up k ∧ σ.n ≤ k ∧ ∀ j y, j < i → l[j]? = some y → y.to ≠ 0) l.length ?_ ?_
  · exact ⟨0, σ.n, by omega, by omega, ⟨by simp -implicitDefEqProofs (disch := first | omega | (simp only [St.set_n, St.up_n, List.length_cons, List.length_nil]; omega)) only [go_sem, Nat.reduceAdd, Nat.reduceMul, Nat.reduceSub, Int.reduceAdd, Int.reduceMul, Int.reduceSub, Int.reduceNeg, Int.reduceToNat], by simp -implicitDefEqProofs (disch := first | omega | (simp only [St.set_n, St.up_n, List.length_cons, List.length_nil]; omega)) only [go_sem, Nat.reduceAdd, Nat.reduceMul, Nat.reduceSub, Int.reduceAdd, Int.reduceMul, Int.reduceSub, Int.reduceNeg, Int.reduceToNat], by simp -implicitDefEqProofs (disch := first | omega | (simp only [St.set_n, St.up_n, List.length_cons, List.length_nil]; omega)) only [go_sem, Nat.reduceAdd, Nat.reduceMul, Nat.reduceSub, Int.reduceAdd, Int.reduceMul, Int.reduceSub, Int.reduceNeg, Int.reduceToNat], by simp -implicitDefEqProofs (disch := first | omega | (simp only [St.set_n, St.up_n, List.length_cons, List.length_nil]; omega)) only [go_sem, Nat.reduceAdd, Nat.reduceMul, Nat.reduceSub, Int.reduceAdd, Int.reduceMul, Int.reduceSub, Int.reduceNeg, Int.reduceToNat]; rfl, by simp -implicitDefEqProofs (disch := first | omega | (simp only [St.set_n, St.up_n, List.length_cons, List.length_nil]; omega)) only [go_sem, Nat.reduceAdd, Nat.reduceMul, Nat.reduceSub, Int.reduceAdd, Int.reduceMul, Int.reduceSub, Int.reduceNeg, Int.reduceToNat]⟩, rfl, Nat.le_refl _, fun j y hj _ => by omega⟩
  · rintro m e s hws ⟨i, k, hm, hi, ⟨q0, q1, q7, q8, hd⟩, rfl, hk, hall⟩
    by_cases hlt : (i : Int) < l.length
    · obtain ⟨x, hx⟩ : ∃ x, l[i]? = some x := ⟨l[i]'(by omega), List.getElem?_eq_getElem (by omega)⟩
      obtain ⟨b1, c1, sp1, e1, _, m1, _, _⟩ := ho.has (by omega)
      cases e1
      have hcc := cl_cells hx sp1
      simp -implicitDefEqProofs (disch := first | omega | (simp only [St.set_n, St.up_n, List.length_cons, List.length_nil]; omega)) only [go_sem, Nat.reduceAdd, Nat.reduceMul, Nat.reduceSub, Int.reduceAdd, Int.reduceMul, Int.reduceSub, Int.reduceNeg, Int.reduceToNat, q0, q1, q7, q8, hlt, m1, hcc]
      refine callF_of (call_open (c := x) fun k2 hk2 => ?_)
      simp only [St.up_n] at hk2
      by_cases hto : x.to = 0
      · simp -implicitDefEqProofs (disch := first | omega | (simp only [St.set_n, St.up_n, List.length_cons, List.length_nil]; omega)) only [go_sem, Nat.reduceAdd, Nat.reduceMul, Nat.reduceSub, Int.reduceAdd, Int.reduceMul, Int.reduceSub, Int.reduceNeg, Int.reduceToNat, hto, hd]
        refine hK _ _ (by omega) ?_
        have h1 : l.any (fun c => decide (c.to = 0)) = true := List.any_eq_true.2 ⟨x, List.mem_of_getElem? hx, by simp [hto]⟩
        rw [h1]; simp
      · simp -implicitDefEqProofs (disch := first | omega | (simp only [St.set_n, St.up_n, List.length_cons, List.length_nil]; omega)) only [go_sem, Nat.reduceAdd, Nat.reduceMul, Nat.reduceSub, Int.reduceAdd, Int.reduceMul, Int.reduceSub, Int.reduceNeg, Int.reduceToNat, hto, q8]
        refine ⟨l.length - (i + 1), by omega, i + 1, k2, rfl, by omega, ⟨by simp -implicitDefEqProofs (disch := first | omega | (simp only [St.set_n, St.up_n, List.length_cons, List.length_nil]; omega)) only [go_sem, Nat.reduceAdd, Nat.reduceMul, Nat.reduceSub, Int.reduceAdd, Int.reduceMul, Int.reduceSub, Int.reduceNeg, Int.reduceToNat, q0], by simp -implicitDefEqProofs (disch := first | omega | (simp only [St.set_n, St.up_n, List.length_cons, List.length_nil]; omega)) only [go_sem, Nat.reduceAdd, Nat.reduceMul, Nat.reduceSub, Int.reduceAdd, Int.reduceMul, Int.reduceSub, Int.reduceNeg, Int.reduceToNat, q1], by simp -implicitDefEqProofs (disch := first | omega | (simp only [St.set_n, St.up_n, List.length_cons, List.length_nil]; omega)) only [go_sem, Nat.reduceAdd, Nat.reduceMul, Nat.reduceSub, Int.reduceAdd, Int.reduceMul, Int.reduceSub, Int.reduceNeg, Int.reduceToNat, q7], by simp -implicitDefEqProofs (disch := first | omega | (simp only [St.set_n, St.up_n, List.length_cons, List.length_nil]; omega)) only [go_sem, Nat.reduceAdd, Nat.reduceMul, Nat.reduceSub, Int.reduceAdd, Int.reduceMul, Int.reduceSub, Int.reduceNeg, Int.reduceToNat]; simp, by simp -implicitDefEqProofs (disch := first | omega | (simp only [St.set_n, St.up_n, List.length_cons, List.length_nil]; omega)) only [go_sem, Nat.reduceAdd, Nat.reduceMul, Nat.reduceSub, Int.reduceAdd, Int.reduceMul, Int.reduceSub, Int.reduceNeg, Int.reduceToNat, hd]⟩, rfl, by omega, fun j y hj hy => ?_⟩
        by_cases hji : j = i
        · subst hji; rw [hx] at hy; cases hy; exact hto
        · exact hall j y (by omega) hy
    · simp -implicitDefEqProofs (disch := first | omega | (simp only [St.set_n, St.up_n, List.length_cons, List.length_nil]; omega)) only [go_sem, Nat.reduceAdd, Nat.reduceMul, Nat.reduceSub, Int.reduceAdd, Int.reduceMul, Int.reduceSub, Int.reduceNeg, Int.reduceToNat, q7, q8, hlt, hd]
      refine hK _ _ (by omega) ?_
      have h1 : l.any (fun c => decide (c.to = 0)) = false := by
        rw [List.any_eq_false]
        intro y hy
        obtain ⟨j, hj⟩ := List.getElem?_of_mem hy
        have := hall j y (by have := (List.getElem?_eq_some_iff.1 hj).1; omega) hj
        simp [this]
      rw [h1]; rfl
theorem call_any {l : List Cl} {v : Value} (hl : l.length ≤ 100000) (ho : Own σ 69 15 (flat fC l) l.length v) (hK : ∀ k, σ.n ≤ k → K (.bool (l.any fun c => decide (c.to = 0))) (σ.up k)) :
    Fn Tryz.prog B 45 #[v, .func (.func 46) #[] #[]] σ K := by
  refine Fn.of is45 (by simp) fun hwf => ?_
  simp only [b45, Tryz.f45, Option.getD_some]
  simp -implicitDefEqProofs (disch := first | omega | (simp only [St.set_n, St.up_n, List.length_cons, List.length_nil]; omega)) only [go_sem, Nat.reduceAdd, Nat.reduceMul, Nat.reduceSub, Int.reduceAdd, Int.reduceMul, Int.reduceSub, Int.reduceNeg, Int.reduceToNat]
  refine callF_of (call_index hl ho fun r k hk hr => ?_)
  simp -implicitDefEqProofs (disch := first | omega | (simp only [St.set_n, St.up_n, List.length_cons, List.length_nil]; omega)) only [go_sem, Nat.reduceAdd, Nat.reduceMul, Nat.reduceSub, Int.reduceAdd, Int.reduceMul, Int.reduceSub, Int.reduceNeg, Int.reduceToNat]
  rw [hr]; exact hK k hk
theorem ones_flat (l : List Cl) : (flat fC l).all Value.oneCell' = true := by
  rw [List.all_eq_true]
  intro x hx
  obtain ⟨c, _, hc⟩ := List.mem_flatMap.1 hx
  simp only [fC, List.mem_cons, List.mem_nil_iff, or_false] at hc
  rcases hc with h | h | h | h | h | h | h | h | h | h | h | h | h | h | h <;> rw [h] <;> rfl
set_option maxHeartbeats 4000000 in
theorem call_clone {l : List Cl} {v : Value} (hl : l.length ≤ 100000) (ho : Own σ 69 15 (flat fC l) l.length v)
    (hK : ∀ v' s, Own s 69 15 (flat fC l) l.length v' → (∀ c x, σ.m c = some x → s.m c = some x ∧ blk v' ≠ some c) → σ.n ≤ s.n → (∀ b, blk v' = some b → σ.n ≤ b) → K v' s) : Fn Tryz.prog B 44 #[v] σ K := by
  obtain ⟨A, c, rfl, hc⟩ := ho.is
  refine Fn.of is44 (by simp) fun hwf => ?_
  simp only [b44, Tryz.f44, Option.getD_some]
  cases A with
  | none =>
    simp -implicitDefEqProofs (disch := first | omega | (simp only [St.set_n, St.up_n, List.length_cons, List.length_nil]; omega)) only [go_sem, Nat.reduceAdd, Nat.reduceMul, Nat.reduceSub, Int.reduceAdd, Int.reduceMul, Int.reduceSub, Int.reduceNeg, Int.reduceToNat]
    have hn : l.length = 0 := by
      obtain ⟨_, ⟨_, h⟩ | ⟨b, cap, sp, h, _⟩⟩ := ho
      · exact h
      · cases h
    have hl0 : l = [] := List.length_eq_zero_iff.1 hn
    subst hl0
    exact hK _ _ Own.nil (fun c x hx => ⟨hx, by simp [blk]⟩) (Nat.le_refl _) (fun b hb => by cases hb)
  | some ad =>
    simp -implicitDefEqProofs (disch := first | omega | (simp only [St.set_n, St.up_n, List.length_cons, List.length_nil]; omega)) only [go_sem, Nat.reduceAdd, Nat.reduceMul, Nat.reduceSub, Int.reduceAdd, Int.reduceMul, Int.reduceSub, Int.reduceNeg, Int.reduceToNat]
    have keep : ∀ c x, σ.m c = some x → ((σ.set σ.n (.raw (.cells #[] 69 (0, 0)))).up (σ.n + 1)).m c = some x := fun c x hx => by
      have := (hwf.2 _ _ hx).2
      simp -implicitDefEqProofs (disch := first | omega | (simp only [St.set_n, St.up_n, List.length_cons, List.length_nil]; omega)) only [go_sem, Nat.reduceAdd, Nat.reduceMul, Nat.reduceSub, Int.reduceAdd, Int.reduceMul, Int.reduceSub, Int.reduceNeg, Int.reduceToNat, hx]
    refine app_own2 se56 (.inr kd56) zr69 rfl (by omega) (cs := []) (n := 0) (Own.of' (sp := []) (by simp -implicitDefEqProofs (disch := first | omega | (simp only [St.set_n, St.up_n, List.length_cons, List.length_nil]; omega)) only [go_sem, Nat.reduceAdd, Nat.reduceMul, Nat.reduceSub, Int.reduceAdd, Int.reduceMul, Int.reduceSub, Int.reduceNeg, Int.reduceToNat]) rfl (Nat.le_refl _) rfl) (Own.fc (ho.keepR fun b o _ hb => keep _ _ hb)) (by rw [flat_length fC_len]) (ones_flat l) (by omega) fun v' s h1 h2 h3 h4 => ?_
    simp only [St.up_n, Nat.zero_add, List.nil_append] at h1 h2 h4
    simp -implicitDefEqProofs (disch := first | omega | (simp only [St.set_n, St.up_n, List.length_cons, List.length_nil]; omega)) only [go_sem, Nat.reduceAdd, Nat.reduceMul, Nat.reduceSub, Int.reduceAdd, Int.reduceMul, Int.reduceSub, Int.reduceNeg, Int.reduceToNat]
    have hb : ∀ b, blk v' = some b → σ.n ≤ b := fun b hb => by
      rcases h2 b hb with h | h
      · omega
      · simp only [blk, Option.some.injEq] at h; omega
    refine hK _ _ h1 (fun c x hx => ?_) (by omega) hb
    have hcn := (hwf.2 _ _ hx).2
    have hne : blk v' ≠ some c := fun e => by have := hb c e; omega
    exact ⟨(h3 c hne).trans (keep c x hx), hne⟩
set_option maxHeartbeats 4000000 in
theorem log_calls_nil (hK : ∀ k, σ.n ≤ k → K (.tuple #[.slice none 0 0, .bool true]) (σ.up k)) : Fn Tryz.prog B 14 #[.pointer none] σ K := by
  refine Fn.of' is14 (by simp) fun hwf => ?_
  simp only [b14, Tryz.f14, Option.getD_some]
  simp -implicitDefEqProofs (disch := first | omega | (simp only [St.set_n, St.up_n, List.length_cons, List.length_nil]; omega)) only [go_sem, Nat.reduceAdd, Nat.reduceMul, Nat.reduceSub, Int.reduceAdd, Int.reduceMul, Int.reduceSub, Int.reduceNeg, Int.reduceToNat]
  exact ⟨_, To.refl _ _, hK σ.n (Nat.le_refl _)⟩
theorem LgO.leave {p : Nat} {S : LS} {sv mv : Value} (h : LgO B σ τ p S sv mv) :
    ∃ σ'', To B τ σ'' ∧ σ''.m p = some (.comp (LogR S p)) ∧ σ''.n = τ.n ∧ ∀ c x, c ≠ p → τ.m c = some x → blk sv ≠ some c → mblk mv ≠ some c → σ''.m c = some x := by
  have hin1 : ∀ b, blk sv = some b → b ∈ p :: ((blk sv).toList ++ (mblk mv).toList) := fun b hb => List.mem_cons_of_mem _ (List.mem_append.2 (.inl (by simp [hb])))
  have hin2 : ∀ b, mblk mv = some b → b ∈ p :: ((blk sv).toList ++ (mblk mv).toList) := fun b hb => List.mem_cons_of_mem _ (List.mem_append.2 (.inr (by simp [hb])))
  have hR : LogR S p (pick τ (p :: ((blk sv).toList ++ (mblk mv).toList))) := by
    refine ⟨sv, mv, pick_of List.mem_cons_self h.root, h.own.keepR fun b o hb hm => ?_, h.offp, h.mp.keepR fun b o hb hm => ?_⟩
    · simp only [hs, pick_of (hin1 b hb) hm, Option.map_some]
    · simp only [hs, pick_of (hin2 b hb) hm, Option.map_some]
  refine ⟨τ.fold p (pick τ (p :: ((blk sv).toList ++ (mblk mv).toList))) (LogR S p), To.fold p _ (fun c o hc => ?_) ?_ hR, by simp [St.fold], rfl, fun c x hc hx h1 h2 => ?_⟩
  · unfold pick at hc
    split at hc
    · split at hc <;> first | contradiction | skip
      rename_i o2 hm
      cases hc; exact hm
    · cases hc
  · rw [pick_of List.mem_cons_self h.root]; rfl
  · have : c ∉ p :: ((blk sv).toList ++ (mblk mv).toList) := fun hm => by
      rcases List.mem_cons.1 hm with h4 | h4
      · exact hc h4
      · rcases List.mem_append.1 h4 with h4 | h4 <;> simp only [Option.mem_toList] at h4
        · exact h1 h4
        · exact h2 h4
    have hp : pick τ (p :: ((blk sv).toList ++ (mblk mv).toList)) c = none := by unfold pick; rw [if_neg this]
    simp only [St.fold, if_neg hc, hp, Option.isSome_none, Bool.false_eq_true, if_false]; exact hx
set_option maxHeartbeats 4000000 in
theorem log_calls {S : LS} {p : Nat} (hm : σ.m p = some (.comp (LogR S p))) (hl : S.l.length ≤ 100000)
    (hK : ∀ v s, Own s 69 15 (flat fC S.l) S.l.length v → (∀ c x, σ.m c = some x → s.m c = some x ∧ blk v ≠ some c) → σ.n ≤ s.n → (∀ b, blk v = some b → σ.n ≤ b) → K (.tuple #[v, .bool !(S.l.any fun c => decide (c.to = 0))]) s) :
    Fn Tryz.prog B 14 #[.pointer (some ⟨p, 0, none⟩)] σ K := by
  refine Fn.opnL hm is14 (by simp) fun sv mv τ hn O => ?_
  have hr := O.root
  obtain ⟨A, cap, rfl, _⟩ := O.own.is
  simp only [b14, Tryz.f14, Option.getD_some]
  simp -implicitDefEqProofs (disch := first | omega | (simp only [St.set_n, St.up_n, List.length_cons, List.length_nil]; omega)) only [go_sem, Nat.reduceAdd, Nat.reduceMul, Nat.reduceSub, Int.reduceAdd, Int.reduceMul, Int.reduceSub, Int.reduceNeg, Int.reduceToNat, hr]
  refine effD_plan [0, 1, 3, 7, 15, 0, 32, 96, 224, 511, 1023, 1023, 4095] [0, 1, 2, 3, 5, 6, 7, 8, 10, 11, 12] (.eag 0 (.eag 1 (.eag 2 (.eagq 3 (.eag 5 (.eag 6 (.eag 7 (.eagq 8 (.alt 4 [8] (.alt 9 [] (.eag 10 (.eag 11 (.eag 12 .fin))) .stop) .stop))))))))) (by kernel_rfl) ?_
  simp -implicitDefEqProofs (disch := first | omega | (simp only [St.set_n, St.up_n, List.length_cons, List.length_nil]; omega)) only [go_sem, Nat.reduceAdd, Nat.reduceMul, Nat.reduceSub, Int.reduceAdd, Int.reduceMul, Int.reduceSub, Int.reduceNeg, Int.reduceToNat, hr]
  refine callF_wf (call_clone hl O.own fun v s ov hk hn1 hnb hws => ?_)
  have O1 : LgO B σ s p S (.slice A S.l.length cap) mv := O.more hws (fun c x hx => (hk c x hx).1) hn1
  have hr1 := O1.root
  simp -implicitDefEqProofs (disch := first | omega | (simp only [St.set_n, St.up_n, List.length_cons, List.length_nil]; omega)) only [go_sem, Nat.reduceAdd, Nat.reduceMul, Nat.reduceSub, Int.reduceAdd, Int.reduceMul, Int.reduceSub, Int.reduceNeg, Int.reduceToNat, hr1]
  refine callF_of (call_any hl O1.own fun k hk2 => ?_)
  simp -implicitDefEqProofs (disch := first | omega | (simp only [St.set_n, St.up_n, List.length_cons, List.length_nil]; omega)) only [go_sem, Nat.reduceAdd, Nat.reduceMul, Nat.reduceSub, Int.reduceAdd, Int.reduceMul, Int.reduceSub, Int.reduceNeg, Int.reduceToNat]
  have O2 : LgO B σ (s.up k) p S (.slice A S.l.length cap) mv := O1.more (hws.up hk2) (fun c x hx => hx) hk2
  obtain ⟨σ'', hT, hp'', hn'', hkeep⟩ := O2.leave
  refine ⟨σ'', hT, hK v σ'' (ov.keepR fun b o hb ho => ?_) (fun c x hx => ?_) ?_ (fun b hb => by have := hnb b hb; omega)⟩
  · obtain ⟨z1, z2, z3⟩ := O.off (hnb b hb)
    exact hkeep b _ z1 ho z2 z3
  · by_cases hc : c = p
    · subst hc
      rw [hm] at hx; cases hx
      exact ⟨hp'', (hk c _ O.root).2⟩
    · obtain ⟨h1, h2, h3⟩ := O2.fr c x hc hx
      exact ⟨hkeep c x hc h1 h2 h3, (hk c x (O.fr c x hc hx).1).2⟩
  · have := O2.n; rw [hn'']; exact this
end
end Go.Proofs.YtdbgeahmhfocaaaGreat
