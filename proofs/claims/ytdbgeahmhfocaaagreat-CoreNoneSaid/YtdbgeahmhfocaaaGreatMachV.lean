/- Threads that take turns: 'Run'. -/
import Derived.Test.YtdbgeahmhfocaaaGreatMachU
namespace Go.Proofs.YtdbgeahmhfocaaaGreat
set_option linter.unusedSimpArgs false
set_option linter.unusedVariables false
set_option maxRecDepth 100000
open Go Go.RowKit
theorem SemS.scope {P : Program} {B : World} {n : Nat} {c : Code} {Q : Exit → Fr → St → Prop} {e : Fr} {σ : St} (h : SemS P B none n c (noGotoQ Q) e σ) : SemS P B none n (.scope c) Q e σ := by
  intro hmix hok a w ha hw
  have h1 := h hmix hok a w ha hw
  have h2 : c.wp P (Exit.noGoto fun x a' w' => ∃ e' σ', Is a' n e' ∧ Rel B w' σ' ∧ Q x e' σ') a w := by
    refine wpIn_wide.1 (wpIn_mono (F := Fence.wide) (n := 0) h1 ?_)
    rintro ex a' w' ⟨e', σ', ha', hw', hq⟩
    cases ex with
    | goto l => exact hq.elim
    | _ => exact ⟨e', σ', ha', hw', hq⟩
  exact wpIn_wide.2 (wp_scope_straight h2)
section
variable {B : World} {σ τ : St} {K : Value → St → Prop}
def RInt (x : Int) (cs : List Value) : Prop := cs = [.int .i64 x]
theorem ones_st {vs : List Value} (hv : ∀ u ∈ vs, StV u) : vs.all Value.oneCell' = true := by
  rw [List.all_eq_true]
  intro x hx
  rcases hv x hx with rfl | ⟨_, _, _, rfl⟩ <;> rfl
/-- A slice of steps, or of functions, that can be read whole. -/
structure FcV (B : World) (σ : St) (vs : List Value) (v : Value) : Prop where
  is : ∃ a cap, v = .slice a vs.length cap
  fc : fc B σ 1 v = some (vs.length, vs)
set_option maxHeartbeats 4000000 in
theorem st_clone {vs : List Value} {v : Value} (hl : vs.length ≤ 100000) (hv : ∀ u ∈ vs, StV u) (ho : FcV B σ vs v) (hk0 : ∀ k s, s = (σ.set σ.n k).up (σ.n + 1) → fc B s 1 v = some (vs.length, vs))
    (hK : ∀ v' s, Own s 50 1 vs vs.length v' → (∀ c, c < σ.n → s.m c = σ.m c) → σ.n ≤ s.n → (∀ b, blk v' = some b → σ.n ≤ b) → K v' s) : Fn Tryz.prog B 39 #[v] σ K := by
  obtain ⟨⟨A, c, rfl⟩, hfc⟩ := ho
  refine Fn.of is39 (by simp) fun hwf => ?_
  simp only [b39, Tryz.f39, Option.getD_some]
  cases A with
  | none =>
    simp -implicitDefEqProofs (disch := first | omega | (simp only [St.set_n, St.up_n, List.length_cons, List.length_nil]; omega)) only [go_sem, Nat.reduceAdd, Nat.reduceMul, Nat.reduceSub, Int.reduceAdd, Int.reduceMul, Int.reduceSub, Int.reduceNeg, Int.reduceToNat]
    simp only [fc, Option.some.injEq, Prod.mk.injEq, true_and] at hfc
    subst hfc
    exact hK _ _ Own.nil (fun c hc => rfl) (Nat.le_refl _) (fun b hb => by cases hb)
  | some ad =>
    simp -implicitDefEqProofs (disch := first | omega | (simp only [St.set_n, St.up_n, List.length_cons, List.length_nil]; omega)) only [go_sem, Nat.reduceAdd, Nat.reduceMul, Nat.reduceSub, Int.reduceAdd, Int.reduceMul, Int.reduceSub, Int.reduceNeg, Int.reduceToNat]
    refine app_own2 se45 (.inr kd45) zr50 rfl (by omega) (cs := []) (n := 0) (Own.of' (sp := []) (by simp -implicitDefEqProofs (disch := first | omega | (simp only [St.set_n, St.up_n, List.length_cons, List.length_nil]; omega)) only [go_sem, Nat.reduceAdd, Nat.reduceMul, Nat.reduceSub, Int.reduceAdd, Int.reduceMul, Int.reduceSub, Int.reduceNeg, Int.reduceToNat]) rfl (Nat.le_refl _) rfl) (hk0 _ _ rfl) (by omega) (ones_st hv) (by omega) fun v' s h1 h2 h3 h4 => ?_
    simp only [St.up_n, Nat.zero_add, List.nil_append] at h1 h2 h4
    simp -implicitDefEqProofs (disch := first | omega | (simp only [St.set_n, St.up_n, List.length_cons, List.length_nil]; omega)) only [go_sem, Nat.reduceAdd, Nat.reduceMul, Nat.reduceSub, Int.reduceAdd, Int.reduceMul, Int.reduceSub, Int.reduceNeg, Int.reduceToNat]
    have hb : ∀ b, blk v' = some b → σ.n ≤ b := fun b hb => by
      rcases h2 b hb with h | h
      · omega
      · simp only [blk, Option.some.injEq] at h; omega
    refine hK _ _ h1 (fun c hc => ?_) (by omega) hb
    have hne : blk v' ≠ some c := fun e => by have := hb c e; omega
    rw [h3 c hne]
    simp -implicitDefEqProofs (disch := first | omega | (simp only [St.set_n, St.up_n, List.length_cons, List.length_nil]; omega)) only [go_sem, Nat.reduceAdd, Nat.reduceMul, Nat.reduceSub, Int.reduceAdd, Int.reduceMul, Int.reduceSub, Int.reduceNeg, Int.reduceToNat]
structure PkI (x4 q n cap i : Nat) (A : Option Addr) (e : Fr) : Prop where
  v4 : e.v 4 = .pointer (some ⟨x4, 0, none⟩)
  v5 : e.v 5 = .pointer (some ⟨q, 0, none⟩)
  v12 : e.v 12 = .slice A n cap
  v13 : e.v 13 = .int .i64 n
  v14 : e.v 14 = .int .i64 i
  d : e.d = []
structure PkJ (x4 q : Nat) (e : Fr) : Prop where
  v4 : e.v 4 = .pointer (some ⟨x4, 0, none⟩)
  v5 : e.v 5 = .pointer (some ⟨q, 0, none⟩)
  d : e.d = []
structure VB (bb : Bool) (e : Fr) : Prop where
  v26 : e.v 26 = .bool bb
structure Bx (x4 : Nat) (s : St) : Prop where
  m : s.m x4 = some (.raw (.cells #[.slice none 0 0, .int .i64 0, .int .i64 0] 54 (0, 0)))
set_option maxHeartbeats 8000000 in
theorem m_run {Y : Sys B} {G : Nat → Prop} {x0 : Y.X} {vs : List Value} {picks : List Int} {pv tv : Value} (hI : Y.Inv G x0 vs σ) (hN : Y.n ≤ 1000) (hpl : picks.length ≤ 1000000) (ht : FcV B σ vs tv)
    (hk0 : ∀ s, (∀ c, c < σ.n → s.m c = σ.m c) → fc B s 1 tv = some (vs.length, vs)) (hp : SlR B 1 RInt picks pv) {R : Y.MA × Int} (hR : Sys.loopA 70000 (Sys.picksA ⟨x0, [], 0⟩ picks) = R)
    (hK : ∀ mv vs' s, Own s 3 1 (ints R.1.mv) R.1.mv.length mv → Y.Inv G R.1.x vs' s → σ.n ≤ s.n → (∀ c y, G c → σ.m c = some y → s.m c = some y) → K (.agg #[mv, .int .i64 R.1.ca, .int .i64 R.2]) s) :
    Fn Tryz.prog B 13 #[pv, tv] σ K := by
  obtain ⟨a, cap, rfl, hlc, hcm, hnil, hat⟩ := hp
  have hlen := Y.len hI
  obtain ⟨⟨At, ct, rfl⟩, hfc⟩ := ht
  refine Fn.ofS is13 (by simp) fun hwf => ?_
  have hB := hwf.1
  simp only [b13, Tryz.f13, Option.getD_some]
  refine SemS.seqw fun _ => ?_
  simp -implicitDefEqProofs (disch := first | omega | (simp only [St.set_n, St.up_n, List.length_cons, List.length_nil]; omega)) only [go_sem, Nat.reduceAdd, Nat.reduceMul, Nat.reduceSub, Int.reduceAdd, Int.reduceMul, Int.reduceSub, Int.reduceNeg, Int.reduceToNat]
  refine SemS.scope ?_
  refine SemS.seqw fun hw1 => ?_
  simp -implicitDefEqProofs (disch := first | omega | (simp only [St.set_n, St.up_n, List.length_cons, List.length_nil]; omega)) only [go_sem, Nat.reduceAdd, Nat.reduceMul, Nat.reduceSub, Int.reduceAdd, Int.reduceMul, Int.reduceSub, Int.reduceNeg, Int.reduceToNat]
  refine callF_wf (st_clone (by omega) (vals_st hI) ⟨⟨_, _, rfl⟩, hk0 _ fun c hc => by simp -implicitDefEqProofs (disch := first | omega | (simp only [St.set_n, St.up_n, List.length_cons, List.length_nil]; omega)) only [go_sem, Nat.reduceAdd, Nat.reduceMul, Nat.reduceSub, Int.reduceAdd, Int.reduceMul, Int.reduceSub, Int.reduceNeg, Int.reduceToNat]⟩ (fun k s hs => hk0 s fun c hc => by subst hs; simp only [St.up_n]; simp -implicitDefEqProofs (disch := first | omega | (simp only [St.set_n, St.up_n, List.length_cons, List.length_nil]; omega)) only [go_sem, Nat.reduceAdd, Nat.reduceMul, Nat.reduceSub, Int.reduceAdd, Int.reduceMul, Int.reduceSub, Int.reduceNeg, Int.reduceToNat]) fun v' s o1 hold hn hb hws => ?_)
  obtain ⟨A1, c1, rfl, _⟩ := o1.is
  simp only [St.up_n] at hold hn hb
  simp -implicitDefEqProofs (disch := first | omega | (simp only [St.set_n, St.up_n, List.length_cons, List.length_nil]; omega)) only [go_sem, Nat.reduceAdd, Nat.reduceMul, Nat.reduceSub, Int.reduceAdd, Int.reduceMul, Int.reduceSub, Int.reduceNeg, Int.reduceToNat]
  obtain ⟨σ1, hσ1⟩ : ∃ σ1, σ1 = (σ.set σ.n (.raw (.cells #[.slice none 0 0, .int .i64 0, .int .i64 0] 54 (0, 0)))).up (σ.n + 1) := ⟨_, rfl⟩
  have hn1 : σ1.n = σ.n + 1 := by rw [hσ1]; rfl
  rw [← hσ1] at hold hw1
  have hx4 : σ1.m σ.n = some (.raw (.cells #[.slice none 0 0, .int .i64 0, .int .i64 0] 54 (0, 0))) := by rw [hσ1]; simp -implicitDefEqProofs (disch := first | omega | (simp only [St.set_n, St.up_n, List.length_cons, List.length_nil]; omega)) only [go_sem, Nat.reduceAdd, Nat.reduceMul, Nat.reduceSub, Int.reduceAdd, Int.reduceMul, Int.reduceSub, Int.reduceNeg, Int.reduceToNat]
  have hk1 : ∀ c, c < σ.n → σ1.m c = σ.m c := fun c hc => by rw [hσ1]; simp -implicitDefEqProofs (disch := first | omega | (simp only [St.set_n, St.up_n, List.length_cons, List.length_nil]; omega)) only [go_sem, Nat.reduceAdd, Nat.reduceMul, Nat.reduceSub, Int.reduceAdd, Int.reduceMul, Int.reduceSub, Int.reduceNeg, Int.reduceToNat]
  have hqn : s.n ≠ σ.n := by omega
  have hq0 : σ1.m s.n = none := by
    cases hx : σ1.m s.n with
    | none => rfl
    | some y => have := (hw1.2 _ _ hx).2; omega
  have hnn : σ.m σ.n = none := by
    cases hx : σ.m σ.n with
    | none => rfl
    | some y => have := (hwf.2 _ _ hx).2; omega
  have hI1 : Y.Inv (fun c => (G c ∨ c = σ.n) ∨ c = s.n) x0 vs (σ1.up (s.n + 1)) := Y.fresh (Y.stable (Y.fresh (Y.stable hI (s' := σ.up (σ.n + 1)) (fun c y _ hx => hx) (by simp only [St.up_n]; omega)) hnn (by simp only [St.up_n]; omega)) (fun c y _ hx => (hk1 c (hwf.2 _ _ hx).2).trans hx) (by simp only [St.up_n]; omega)) hq0 (by simp only [St.up_n]; omega)
  have hG2 : (fun c => (G c ∨ c = σ.n) ∨ c = s.n) s.n := .inr rfl
  have hT : To B ((s.set s.n (.raw (.cells #[.slice none 0 0, .int .i64 0, .int .i64 0, .slice A1 vs.length c1] 114 (0, 0)))).up (s.n + 1)) ((σ1.set s.n (.comp (MaR ⟨[], (0 : Nat), 0, vs⟩ s.n))).up (s.n + 1)) := by
    have hbs : blk (.slice A1 vs.length c1) ≠ some s.n := fun e => by
      obtain ⟨o, ho⟩ := o1.at_ e
      have := (hws.2 _ _ ho).2; omega
    have hroot : ((s.set s.n (.raw (.cells #[.slice none 0 0, .int .i64 0, .int .i64 0, .slice A1 vs.length c1] 114 (0, 0)))).up (s.n + 1)).m s.n = some (.raw (.cells (mRoot ((0 : Nat) : Int) 0 [.slice none 0 0, .slice A1 vs.length c1]).toArray 114 (0, 0))) := by
      simp only [St.up_m, St.set_m_same]; rfl
    refine To.closeO (σ := σ1) [.slice none 0 0, .slice A1 vs.length c1] hroot ⟨Own.nil, o1.keepR fun b o hb' ho => ?_, trivial⟩ ⟨by simp [Off, blk], ⟨by simp [Dis, blk], trivial⟩, hbs, trivial, trivial⟩ fun c y hc hx => ?_
    · have : b ≠ s.n := fun e => hbs (e ▸ hb')
      simp -implicitDefEqProofs (disch := first | omega | (simp only [St.set_n, St.up_n, List.length_cons, List.length_nil]; omega)) only [go_sem, Nat.reduceAdd, Nat.reduceMul, Nat.reduceSub, Int.reduceAdd, Int.reduceMul, Int.reduceSub, Int.reduceNeg, Int.reduceToNat, ho]
    · have hcn := (hw1.2 _ _ hx).2
      have := (hold c (by omega)).trans hx
      refine ⟨by simp -implicitDefEqProofs (disch := first | omega | (simp only [St.set_n, St.up_n, List.length_cons, List.length_nil]; omega)) only [go_sem, Nat.reduceAdd, Nat.reduceMul, Nat.reduceSub, Int.reduceAdd, Int.reduceMul, Int.reduceSub, Int.reduceNeg, Int.reduceToNat, this], by simp [Off, blk], fun e => ?_, trivial⟩
      have := hb c e
      omega
  refine SemS.from hT ?_
  have hM0 : Ms Y (fun c => (G c ∨ c = σ.n) ∨ c = s.n) σ1 s.n 0 ⟨x0, [], 0⟩ vs ((σ1.set s.n (.comp (MaR ⟨[], (0 : Nat), 0, vs⟩ s.n))).up (s.n + 1)) :=
    ⟨by simp -implicitDefEqProofs (disch := first | omega | (simp only [St.set_n, St.up_n, List.length_cons, List.length_nil]; omega)) only [go_sem, Nat.reduceAdd, Nat.reduceMul, Nat.reduceSub, Int.reduceAdd, Int.reduceMul, Int.reduceSub, Int.reduceNeg, Int.reduceToNat], Y.stable hI1 (fun c y hc hx => by have : c ≠ s.n := fun e => hc (.inr e); have hx' : σ1.m c = some y := hx; simp -implicitDefEqProofs (disch := first | omega | (simp only [St.set_n, St.up_n, List.length_cons, List.length_nil]; omega)) only [go_sem, Nat.reduceAdd, Nat.reduceMul, Nat.reduceSub, Int.reduceAdd, Int.reduceMul, Int.reduceSub, Int.reduceNeg, Int.reduceToNat, hx']) (by simp only [St.up_n]; omega), by simp only [St.up_n]; omega, fun c y _ hc hx => by simp -implicitDefEqProofs (disch := first | omega | (simp only [St.set_n, St.up_n, List.length_cons, List.length_nil]; omega)) only [go_sem, Nat.reduceAdd, Nat.reduceMul, Nat.reduceSub, Int.reduceAdd, Int.reduceMul, Int.reduceSub, Int.reduceNeg, Int.reduceToNat, hx]⟩
  generalize (σ1.set s.n (.comp (MaR ⟨[], (0 : Nat), 0, vs⟩ s.n))).up (s.n + 1) = s2 at hM0 ⊢
  generalize s.n = q at hM0 hG2 hqn hq0 ⊢
  obtain ⟨Pk, hPk⟩ : ∃ Pk, Pk = Sys.picksA ⟨x0, [], 0⟩ picks := ⟨_, rfl⟩
  rw [← hPk] at hR
  refine SemS.seq (fun e s => ∃ vs', PkJ σ.n q e ∧ Ms Y (fun c => (G c ∨ c = σ.n) ∨ c = q) σ1 q 0 Pk vs' s ∧ Pk.mv.length ≤ 65536 ∧ Pk.ca ≤ picks.length) ?_ ?_
  · refine SemS.seqw fun _ => ?_
    simp -implicitDefEqProofs (disch := first | omega | (simp only [St.set_n, St.up_n, List.length_cons, List.length_nil]; omega)) only [go_sem, Nat.reduceAdd, Nat.reduceMul, Nat.reduceSub, Int.reduceAdd, Int.reduceMul, Int.reduceSub, Int.reduceNeg, Int.reduceToNat]
    refine SemS.block (SemS.loop (fun m e s => ∃ (i : Nat) (a' : Y.MA) (vs' : List Value), m = picks.length - i ∧ i ≤ picks.length ∧ PkI σ.n q picks.length cap i a e ∧ Ms Y (fun c => (G c ∨ c = σ.n) ∨ c = q) σ1 q 0 a' vs' s ∧ Sys.picksA a' (picks.drop i) = Pk ∧ a'.mv.length ≤ 65536 ∧ a'.ca ≤ i) picks.length ?_ ?_)
    · exact ⟨0, _, vs, by omega, by omega, ⟨by simp -implicitDefEqProofs (disch := first | omega | (simp only [St.set_n, St.up_n, List.length_cons, List.length_nil]; omega)) only [go_sem, Nat.reduceAdd, Nat.reduceMul, Nat.reduceSub, Int.reduceAdd, Int.reduceMul, Int.reduceSub, Int.reduceNeg, Int.reduceToNat], by simp -implicitDefEqProofs (disch := first | omega | (simp only [St.set_n, St.up_n, List.length_cons, List.length_nil]; omega)) only [go_sem, Nat.reduceAdd, Nat.reduceMul, Nat.reduceSub, Int.reduceAdd, Int.reduceMul, Int.reduceSub, Int.reduceNeg, Int.reduceToNat], by simp -implicitDefEqProofs (disch := first | omega | (simp only [St.set_n, St.up_n, List.length_cons, List.length_nil]; omega)) only [go_sem, Nat.reduceAdd, Nat.reduceMul, Nat.reduceSub, Int.reduceAdd, Int.reduceMul, Int.reduceSub, Int.reduceNeg, Int.reduceToNat], by simp -implicitDefEqProofs (disch := first | omega | (simp only [St.set_n, St.up_n, List.length_cons, List.length_nil]; omega)) only [go_sem, Nat.reduceAdd, Nat.reduceMul, Nat.reduceSub, Int.reduceAdd, Int.reduceMul, Int.reduceSub, Int.reduceNeg, Int.reduceToNat], by simp -implicitDefEqProofs (disch := first | omega | (simp only [St.set_n, St.up_n, List.length_cons, List.length_nil]; omega)) only [go_sem, Nat.reduceAdd, Nat.reduceMul, Nat.reduceSub, Int.reduceAdd, Int.reduceMul, Int.reduceSub, Int.reduceNeg, Int.reduceToNat]; rfl, by simp -implicitDefEqProofs (disch := first | omega | (simp only [St.set_n, St.up_n, List.length_cons, List.length_nil]; omega)) only [go_sem, Nat.reduceAdd, Nat.reduceMul, Nat.reduceSub, Int.reduceAdd, Int.reduceMul, Int.reduceSub, Int.reduceNeg, Int.reduceToNat]⟩, hM0, by rw [List.drop_zero, hPk], Nat.zero_le _, Nat.zero_le _⟩
    rintro m e s3 hws3 ⟨i, a', vs', hm', hi, ⟨q4, q5, q12, q13, q14, hd⟩, hM, hPi, hl', hca'⟩
    refine SemS.wp fun _ => ?_
    by_cases hlt : (i : Int) < picks.length
    · obtain ⟨x, hx⟩ : ∃ x, picks[i]? = some x := ⟨picks[i]'(by omega), List.getElem?_eq_getElem (by omega)⟩
      obtain ⟨b, o, cs, rfl, hbb, hRx, hsz, hcell⟩ := hat i x hx
      simp only [RInt] at hRx
      subst hRx
      have c0 : B.cell? ⟨b, o + i * 1, none⟩ = _ := hcell 0 _ rfl
      rw [Nat.mul_one] at c0
      have hsb : s3.m b = none := by
        cases hx : s3.m b with
        | none => rfl
        | some y => have := (hws3.2 _ _ hx).1; omega
      have hdr : picks.drop i = x :: picks.drop (i + 1) := by
        rw [List.drop_eq_getElem_cons (by omega)]
        rw [List.getElem?_eq_getElem (by omega)] at hx
        rw [Option.some.inj hx]
      rw [hdr, Sys.picksA] at hPi
      simp -implicitDefEqProofs (disch := first | omega | (simp only [St.set_n, St.up_n, List.length_cons, List.length_nil]; omega)) only [go_sem, Nat.reduceAdd, Nat.reduceMul, Nat.reduceSub, Int.reduceAdd, Int.reduceMul, Int.reduceSub, Int.reduceNeg, Int.reduceToNat, q5, q12, q13, q14, hlt, hsb, hbb, c0]
      refine callF_of (hM.full hN hl' ?_)
      cases hf : Sys.fullA a' with
      | true =>
        rw [hf] at hPi
        simp only [if_true] at hPi
        subst hPi
        simp -implicitDefEqProofs (disch := first | omega | (simp only [St.set_n, St.up_n, List.length_cons, List.length_nil]; omega)) only [go_sem, Nat.reduceAdd, Nat.reduceMul, Nat.reduceSub, Int.reduceAdd, Int.reduceMul, Int.reduceSub, Int.reduceNeg, Int.reduceToNat]
        exact ⟨_, To.refl _ _, vs', ⟨by simp -implicitDefEqProofs (disch := first | omega | (simp only [St.set_n, St.up_n, List.length_cons, List.length_nil]; omega)) only [go_sem, Nat.reduceAdd, Nat.reduceMul, Nat.reduceSub, Int.reduceAdd, Int.reduceMul, Int.reduceSub, Int.reduceNeg, Int.reduceToNat, q4], by simp -implicitDefEqProofs (disch := first | omega | (simp only [St.set_n, St.up_n, List.length_cons, List.length_nil]; omega)) only [go_sem, Nat.reduceAdd, Nat.reduceMul, Nat.reduceSub, Int.reduceAdd, Int.reduceMul, Int.reduceSub, Int.reduceNeg, Int.reduceToNat, q5], by simp -implicitDefEqProofs (disch := first | omega | (simp only [St.set_n, St.up_n, List.length_cons, List.length_nil]; omega)) only [go_sem, Nat.reduceAdd, Nat.reduceMul, Nat.reduceSub, Int.reduceAdd, Int.reduceMul, Int.reduceSub, Int.reduceNeg, Int.reduceToNat, hd]⟩, hM, hl', by omega⟩
      | false =>
        rw [hf] at hPi
        simp only [Bool.false_eq_true, if_false] at hPi
        have hl2 := Sys.turn_len (t := x) hf hl'
        have hc2 := (Sys.turn_mono a' x).2.2
        simp -implicitDefEqProofs (disch := first | omega | (simp only [St.set_n, St.up_n, List.length_cons, List.length_nil]; omega)) only [go_sem, Nat.reduceAdd, Nat.reduceMul, Nat.reduceSub, Int.reduceAdd, Int.reduceMul, Int.reduceSub, Int.reduceNeg, Int.reduceToNat, q5]
        refine callF_of (hM.turn hG2 hN hl' (by omega) x fun vs2 s4 hM2 => ?_)
        simp -implicitDefEqProofs (disch := first | omega | (simp only [St.set_n, St.up_n, List.length_cons, List.length_nil]; omega)) only [go_sem, Nat.reduceAdd, Nat.reduceMul, Nat.reduceSub, Int.reduceAdd, Int.reduceMul, Int.reduceSub, Int.reduceNeg, Int.reduceToNat, q14]
        exact ⟨picks.length - (i + 1), by omega, _, To.refl _ _, i + 1, _, vs2, rfl, by omega, ⟨by simp -implicitDefEqProofs (disch := first | omega | (simp only [St.set_n, St.up_n, List.length_cons, List.length_nil]; omega)) only [go_sem, Nat.reduceAdd, Nat.reduceMul, Nat.reduceSub, Int.reduceAdd, Int.reduceMul, Int.reduceSub, Int.reduceNeg, Int.reduceToNat, q4], by simp -implicitDefEqProofs (disch := first | omega | (simp only [St.set_n, St.up_n, List.length_cons, List.length_nil]; omega)) only [go_sem, Nat.reduceAdd, Nat.reduceMul, Nat.reduceSub, Int.reduceAdd, Int.reduceMul, Int.reduceSub, Int.reduceNeg, Int.reduceToNat, q5], by simp -implicitDefEqProofs (disch := first | omega | (simp only [St.set_n, St.up_n, List.length_cons, List.length_nil]; omega)) only [go_sem, Nat.reduceAdd, Nat.reduceMul, Nat.reduceSub, Int.reduceAdd, Int.reduceMul, Int.reduceSub, Int.reduceNeg, Int.reduceToNat, q12], by simp -implicitDefEqProofs (disch := first | omega | (simp only [St.set_n, St.up_n, List.length_cons, List.length_nil]; omega)) only [go_sem, Nat.reduceAdd, Nat.reduceMul, Nat.reduceSub, Int.reduceAdd, Int.reduceMul, Int.reduceSub, Int.reduceNeg, Int.reduceToNat, q13], by simp -implicitDefEqProofs (disch := first | omega | (simp only [St.set_n, St.up_n, List.length_cons, List.length_nil]; omega)) only [go_sem, Nat.reduceAdd, Nat.reduceMul, Nat.reduceSub, Int.reduceAdd, Int.reduceMul, Int.reduceSub, Int.reduceNeg, Int.reduceToNat]; rfl, by simp -implicitDefEqProofs (disch := first | omega | (simp only [St.set_n, St.up_n, List.length_cons, List.length_nil]; omega)) only [go_sem, Nat.reduceAdd, Nat.reduceMul, Nat.reduceSub, Int.reduceAdd, Int.reduceMul, Int.reduceSub, Int.reduceNeg, Int.reduceToNat, hd]⟩, hM2, hPi, hl2, by omega⟩
    · have hie : i = picks.length := by omega
      subst hie
      rw [List.drop_length, Sys.picksA] at hPi
      subst hPi
      simp -implicitDefEqProofs (disch := first | omega | (simp only [St.set_n, St.up_n, List.length_cons, List.length_nil]; omega)) only [go_sem, Nat.reduceAdd, Nat.reduceMul, Nat.reduceSub, Int.reduceAdd, Int.reduceMul, Int.reduceSub, Int.reduceNeg, Int.reduceToNat, q13, q14, hlt]
      exact ⟨_, To.refl _ _, vs', ⟨by simp -implicitDefEqProofs (disch := first | omega | (simp only [St.set_n, St.up_n, List.length_cons, List.length_nil]; omega)) only [go_sem, Nat.reduceAdd, Nat.reduceMul, Nat.reduceSub, Int.reduceAdd, Int.reduceMul, Int.reduceSub, Int.reduceNeg, Int.reduceToNat, q4], by simp -implicitDefEqProofs (disch := first | omega | (simp only [St.set_n, St.up_n, List.length_cons, List.length_nil]; omega)) only [go_sem, Nat.reduceAdd, Nat.reduceMul, Nat.reduceSub, Int.reduceAdd, Int.reduceMul, Int.reduceSub, Int.reduceNeg, Int.reduceToNat, q5], by simp -implicitDefEqProofs (disch := first | omega | (simp only [St.set_n, St.up_n, List.length_cons, List.length_nil]; omega)) only [go_sem, Nat.reduceAdd, Nat.reduceMul, Nat.reduceSub, Int.reduceAdd, Int.reduceMul, Int.reduceSub, Int.reduceNeg, Int.reduceToNat, hd]⟩, hM, hl', hca'⟩
  · clear hM0 hT
    rintro e s3 hws3 ⟨vs', ⟨q4, q5, hd⟩, hM, hl', hca'⟩
    refine SemS.seqw fun _ => ?_
    simp -implicitDefEqProofs (disch := first | omega | (simp only [St.set_n, St.up_n, List.length_cons, List.length_nil]; omega)) only [go_sem, Nat.reduceAdd, Nat.reduceMul, Nat.reduceSub, Int.reduceAdd, Int.reduceMul, Int.reduceSub, Int.reduceNeg, Int.reduceToNat]
    refine SemS.seq (fun e s => ∃ vs', PkJ σ.n q e ∧ Ms Y (fun c => (G c ∨ c = σ.n) ∨ c = q) σ1 q R.2 R.1 vs' s) ?_ ?_
    · refine SemS.block (SemS.loop (fun m e s => ∃ (k : Nat) (a' : Y.MA) (vs' : List Value), m = 65537 - a'.mv.length ∧ 65537 - a'.mv.length ≤ k ∧ PkJ σ.n q e ∧ Ms Y (fun c => (G c ∨ c = σ.n) ∨ c = q) σ1 q 0 a' vs' s ∧ Sys.loopA k a' = R ∧ a'.mv.length ≤ 65536 ∧ a'.ca ≤ picks.length + 1000 * a'.mv.length) (65537 - Pk.mv.length) ?_ ?_)
      · exact ⟨70000, Pk, vs', rfl, by omega, ⟨q4, q5, hd⟩, hM, hR, hl', by omega⟩
      clear hM hl' hca' q4 q5 hd hR
      rintro m e s4 hws4 ⟨k, a', vs', hm', hk, ⟨q4, q5, hd⟩, hM, hR, hl', hca'⟩
      obtain ⟨k', rfl⟩ : ∃ k', k = k' + 1 := ⟨k - 1, by omega⟩
      rw [Sys.loopA] at hR
      refine SemS.seq (fun e s => PkJ σ.n q e ∧ Ms Y (fun c => (G c ∨ c = σ.n) ∨ c = q) σ1 q 0 a' vs' s ∧ Sys.leftA a'.x = true) (SemS.wp fun _ => ?_) ?_
      · simp -implicitDefEqProofs (disch := first | omega | (simp only [St.set_n, St.up_n, List.length_cons, List.length_nil]; omega)) only [go_sem, Nat.reduceAdd, Nat.reduceMul, Nat.reduceSub, Int.reduceAdd, Int.reduceMul, Int.reduceSub, Int.reduceNeg, Int.reduceToNat, q5]
        refine callF_of (hM.left hN ?_)
        cases hlf : Sys.leftA a'.x with
        | true =>
          simp -implicitDefEqProofs (disch := first | omega | (simp only [St.set_n, St.up_n, List.length_cons, List.length_nil]; omega)) only [go_sem, Nat.reduceAdd, Nat.reduceMul, Nat.reduceSub, Int.reduceAdd, Int.reduceMul, Int.reduceSub, Int.reduceNeg, Int.reduceToNat]
          exact ⟨_, To.refl _ _, ⟨by simp -implicitDefEqProofs (disch := first | omega | (simp only [St.set_n, St.up_n, List.length_cons, List.length_nil]; omega)) only [go_sem, Nat.reduceAdd, Nat.reduceMul, Nat.reduceSub, Int.reduceAdd, Int.reduceMul, Int.reduceSub, Int.reduceNeg, Int.reduceToNat, q4], by simp -implicitDefEqProofs (disch := first | omega | (simp only [St.set_n, St.up_n, List.length_cons, List.length_nil]; omega)) only [go_sem, Nat.reduceAdd, Nat.reduceMul, Nat.reduceSub, Int.reduceAdd, Int.reduceMul, Int.reduceSub, Int.reduceNeg, Int.reduceToNat, q5], by simp -implicitDefEqProofs (disch := first | omega | (simp only [St.set_n, St.up_n, List.length_cons, List.length_nil]; omega)) only [go_sem, Nat.reduceAdd, Nat.reduceMul, Nat.reduceSub, Int.reduceAdd, Int.reduceMul, Int.reduceSub, Int.reduceNeg, Int.reduceToNat, hd]⟩, hM⟩
        | false =>
          rw [hlf] at hR
          simp only [Bool.false_eq_true, if_false] at hR
          subst hR
          simp -implicitDefEqProofs (disch := first | omega | (simp only [St.set_n, St.up_n, List.length_cons, List.length_nil]; omega)) only [go_sem, Nat.reduceAdd, Nat.reduceMul, Nat.reduceSub, Int.reduceAdd, Int.reduceMul, Int.reduceSub, Int.reduceNeg, Int.reduceToNat]
          exact ⟨_, To.refl _ _, vs', ⟨by simp -implicitDefEqProofs (disch := first | omega | (simp only [St.set_n, St.up_n, List.length_cons, List.length_nil]; omega)) only [go_sem, Nat.reduceAdd, Nat.reduceMul, Nat.reduceSub, Int.reduceAdd, Int.reduceMul, Int.reduceSub, Int.reduceNeg, Int.reduceToNat, q4], by simp -implicitDefEqProofs (disch := first | omega | (simp only [St.set_n, St.up_n, List.length_cons, List.length_nil]; omega)) only [go_sem, Nat.reduceAdd, Nat.reduceMul, Nat.reduceSub, Int.reduceAdd, Int.reduceMul, Int.reduceSub, Int.reduceNeg, Int.reduceToNat, q5], by simp -implicitDefEqProofs (disch := first | omega | (simp only [St.set_n, St.up_n, List.length_cons, List.length_nil]; omega)) only [go_sem, Nat.reduceAdd, Nat.reduceMul, Nat.reduceSub, Int.reduceAdd, Int.reduceMul, Int.reduceSub, Int.reduceNeg, Int.reduceToNat, hd]⟩, hM⟩
      clear hM q4 q5 hd
      rintro e s5 hws5 ⟨⟨q4, q5, hd⟩, hM, hlf⟩
      rw [hlf] at hR
      simp only [if_true] at hR
      refine SemS.block (SemS.block ?_)
      refine SemS.seq (fun e s => ∃ (bb : Bool) (a2 : Y.MA) (vs2 : List Value), PkJ σ.n q e ∧ VB bb e ∧ Ms Y (fun c => (G c ∨ c = σ.n) ∨ c = q) σ1 q 0 a2 vs2 s ∧
        ((bb = true ∧ R = (a2, 12)) ∨ (bb = false ∧ Sys.loopA k' a2 = R ∧ 65537 - a2.mv.length ≤ k' ∧ 65537 - a2.mv.length < m ∧ a2.mv.length ≤ 65536 ∧ a2.ca ≤ picks.length + 1000 * a2.mv.length))) (SemS.wp fun _ => ?_) ?_
      · simp -implicitDefEqProofs (disch := first | omega | (simp only [St.set_n, St.up_n, List.length_cons, List.length_nil]; omega)) only [go_sem, Nat.reduceAdd, Nat.reduceMul, Nat.reduceSub, Int.reduceAdd, Int.reduceMul, Int.reduceSub, Int.reduceNeg, Int.reduceToNat, q5]
        refine callF_of (hM.full hN hl' ?_)
        cases hf : Sys.fullA a' with
        | true =>
          rw [hf] at hR
          simp only [if_true] at hR
          simp -implicitDefEqProofs (disch := first | omega | (simp only [St.set_n, St.up_n, List.length_cons, List.length_nil]; omega)) only [go_sem, Nat.reduceAdd, Nat.reduceMul, Nat.reduceSub, Int.reduceAdd, Int.reduceMul, Int.reduceSub, Int.reduceNeg, Int.reduceToNat]
          exact ⟨_, To.refl _ _, true, a', vs', ⟨by simp -implicitDefEqProofs (disch := first | omega | (simp only [St.set_n, St.up_n, List.length_cons, List.length_nil]; omega)) only [go_sem, Nat.reduceAdd, Nat.reduceMul, Nat.reduceSub, Int.reduceAdd, Int.reduceMul, Int.reduceSub, Int.reduceNeg, Int.reduceToNat, q4], by simp -implicitDefEqProofs (disch := first | omega | (simp only [St.set_n, St.up_n, List.length_cons, List.length_nil]; omega)) only [go_sem, Nat.reduceAdd, Nat.reduceMul, Nat.reduceSub, Int.reduceAdd, Int.reduceMul, Int.reduceSub, Int.reduceNeg, Int.reduceToNat, q5], by simp -implicitDefEqProofs (disch := first | omega | (simp only [St.set_n, St.up_n, List.length_cons, List.length_nil]; omega)) only [go_sem, Nat.reduceAdd, Nat.reduceMul, Nat.reduceSub, Int.reduceAdd, Int.reduceMul, Int.reduceSub, Int.reduceNeg, Int.reduceToNat, hd]⟩, ⟨by simp -implicitDefEqProofs (disch := first | omega | (simp only [St.set_n, St.up_n, List.length_cons, List.length_nil]; omega)) only [go_sem, Nat.reduceAdd, Nat.reduceMul, Nat.reduceSub, Int.reduceAdd, Int.reduceMul, Int.reduceSub, Int.reduceNeg, Int.reduceToNat]⟩, hM, .inl ⟨rfl, hR.symm⟩⟩
        | false =>
          rw [hf] at hR
          simp only [Bool.false_eq_true, if_false] at hR
          obtain ⟨r1, r2, r3⟩ := Sys.round_mono (a := a') Y.n 0 false
          have r4 := Sys.round_len (a := a') Y.n 0 false hl'
          simp -implicitDefEqProofs (disch := first | omega | (simp only [St.set_n, St.up_n, List.length_cons, List.length_nil]; omega)) only [go_sem, Nat.reduceAdd, Nat.reduceMul, Nat.reduceSub, Int.reduceAdd, Int.reduceMul, Int.reduceSub, Int.reduceNeg, Int.reduceToNat, q5]
          refine callF_of (m_round hM hG2 hN hl' (by omega) fun vs2 s6 hM2 => ?_)
          cases hrd : (Sys.roundA a' 0 false Y.n).2 with
          | true =>
            rw [hrd] at hR
            simp only [if_true] at hR
            have r5 : a'.mv.length < (Sys.roundA a' 0 false Y.n).1.mv.length := by
              rcases r2 hrd with h | h
              · cases h
              · exact h
            simp -implicitDefEqProofs (disch := first | omega | (simp only [St.set_n, St.up_n, List.length_cons, List.length_nil]; omega)) only [go_sem, Nat.reduceAdd, Nat.reduceMul, Nat.reduceSub, Int.reduceAdd, Int.reduceMul, Int.reduceSub, Int.reduceNeg, Int.reduceToNat]
            exact ⟨_, To.refl _ _, false, _, vs2, ⟨by simp -implicitDefEqProofs (disch := first | omega | (simp only [St.set_n, St.up_n, List.length_cons, List.length_nil]; omega)) only [go_sem, Nat.reduceAdd, Nat.reduceMul, Nat.reduceSub, Int.reduceAdd, Int.reduceMul, Int.reduceSub, Int.reduceNeg, Int.reduceToNat, q4], by simp -implicitDefEqProofs (disch := first | omega | (simp only [St.set_n, St.up_n, List.length_cons, List.length_nil]; omega)) only [go_sem, Nat.reduceAdd, Nat.reduceMul, Nat.reduceSub, Int.reduceAdd, Int.reduceMul, Int.reduceSub, Int.reduceNeg, Int.reduceToNat, q5], by simp -implicitDefEqProofs (disch := first | omega | (simp only [St.set_n, St.up_n, List.length_cons, List.length_nil]; omega)) only [go_sem, Nat.reduceAdd, Nat.reduceMul, Nat.reduceSub, Int.reduceAdd, Int.reduceMul, Int.reduceSub, Int.reduceNeg, Int.reduceToNat, hd]⟩, ⟨by simp -implicitDefEqProofs (disch := first | omega | (simp only [St.set_n, St.up_n, List.length_cons, List.length_nil]; omega)) only [go_sem, Nat.reduceAdd, Nat.reduceMul, Nat.reduceSub, Int.reduceAdd, Int.reduceMul, Int.reduceSub, Int.reduceNeg, Int.reduceToNat]⟩, hM2, .inr ⟨rfl, hR, by omega, by omega, r4, by omega⟩⟩
          | false =>
            rw [hrd] at hR
            simp only [Bool.false_eq_true, if_false] at hR
            simp -implicitDefEqProofs (disch := first | omega | (simp only [St.set_n, St.up_n, List.length_cons, List.length_nil]; omega)) only [go_sem, Nat.reduceAdd, Nat.reduceMul, Nat.reduceSub, Int.reduceAdd, Int.reduceMul, Int.reduceSub, Int.reduceNeg, Int.reduceToNat]
            exact ⟨_, To.refl _ _, true, _, vs2, ⟨by simp -implicitDefEqProofs (disch := first | omega | (simp only [St.set_n, St.up_n, List.length_cons, List.length_nil]; omega)) only [go_sem, Nat.reduceAdd, Nat.reduceMul, Nat.reduceSub, Int.reduceAdd, Int.reduceMul, Int.reduceSub, Int.reduceNeg, Int.reduceToNat, q4], by simp -implicitDefEqProofs (disch := first | omega | (simp only [St.set_n, St.up_n, List.length_cons, List.length_nil]; omega)) only [go_sem, Nat.reduceAdd, Nat.reduceMul, Nat.reduceSub, Int.reduceAdd, Int.reduceMul, Int.reduceSub, Int.reduceNeg, Int.reduceToNat, q5], by simp -implicitDefEqProofs (disch := first | omega | (simp only [St.set_n, St.up_n, List.length_cons, List.length_nil]; omega)) only [go_sem, Nat.reduceAdd, Nat.reduceMul, Nat.reduceSub, Int.reduceAdd, Int.reduceMul, Int.reduceSub, Int.reduceNeg, Int.reduceToNat, hd]⟩, ⟨by simp -implicitDefEqProofs (disch := first | omega | (simp only [St.set_n, St.up_n, List.length_cons, List.length_nil]; omega)) only [go_sem, Nat.reduceAdd, Nat.reduceMul, Nat.reduceSub, Int.reduceAdd, Int.reduceMul, Int.reduceSub, Int.reduceNeg, Int.reduceToNat]⟩, hM2, .inl ⟨rfl, hR.symm⟩⟩
      clear hM q4 q5 hd
      rintro e s6 hws6 ⟨bb, a2, vs2, ⟨q4, q5, hd⟩, ⟨q26⟩, hM, hcase⟩
      refine SemS.cond (b := bb) (by rw [ev_tmp]; exact q26) (fun hb => ?_) (fun hb => ?_)
      · obtain ⟨_, hRR⟩ := hcase.resolve_right fun h => by rw [hb] at h; cases h.1
        subst hRR
        refine SemS.openO hM.m fun vv τ hwτ hnτ hO hfr => SemS.wp fun _ => ?_
        obtain ⟨v1, v2, rfl, o1, o2⟩ := hO.own.two
        have hr := hO.root
        simp only [mRoot_two] at hr
        simp -implicitDefEqProofs (disch := first | omega | (simp only [St.set_n, St.up_n, List.length_cons, List.length_nil]; omega)) only [go_sem, Nat.reduceAdd, Nat.reduceMul, Nat.reduceSub, Int.reduceAdd, Int.reduceMul, Int.reduceSub, Int.reduceNeg, Int.reduceToNat, q5, hr]
        have hI2 := Y.stable (inv_open hM.I hG2 hO.apart hnτ (fun v hv b hb => by obtain ⟨o, ho'⟩ := hO.own.at_ v hv b hb; exact (hwτ.2 _ _ ho').2) hfr) (s' := τ.set q (.raw (.cells #[v1, .int .i64 a2.ca, .int .i64 12, v2] 114 (0, 0)))) (fun c y hc hx => by
          have : c ≠ q := fun e => hc (.inl (e ▸ hG2))
          simp -implicitDefEqProofs (disch := first | omega | (simp only [St.set_n, St.up_n, List.length_cons, List.length_nil]; omega)) only [go_sem, Nat.reduceAdd, Nat.reduceMul, Nat.reduceSub, Int.reduceAdd, Int.reduceMul, Int.reduceSub, Int.reduceNeg, Int.reduceToNat, hx]) (Nat.le_refl _)
        have hO2 : OpenO (τ.set q (.raw (.cells #[v1, .int .i64 a2.ca, .int .i64 12, v2] 114 (0, 0)))) q 114 (mRoot a2.ca 12) (spM ⟨a2.mv, a2.ca, 12, vs2⟩) [v1, v2] :=
          ⟨by simp only [St.set_m_same]; rfl, hO.own.keepR fun v hv b o hb ho => by rw [St.set_m_ne _ _ fun e => hO.apart.off.mem v hv (by rw [← e]; exact hb)]; exact ho, hO.apart⟩
        obtain ⟨σ'', hT2, hq2, hI3, hn4, hk4⟩ := inv_close (M := ⟨a2.mv, a2.ca, 12, vs2⟩) hI2 hG2 hO2
        refine ⟨σ'', hT2, vs2, ⟨by simp -implicitDefEqProofs (disch := first | omega | (simp only [St.set_n, St.up_n, List.length_cons, List.length_nil]; omega)) only [go_sem, Nat.reduceAdd, Nat.reduceMul, Nat.reduceSub, Int.reduceAdd, Int.reduceMul, Int.reduceSub, Int.reduceNeg, Int.reduceToNat, q4], by simp -implicitDefEqProofs (disch := first | omega | (simp only [St.set_n, St.up_n, List.length_cons, List.length_nil]; omega)) only [go_sem, Nat.reduceAdd, Nat.reduceMul, Nat.reduceSub, Int.reduceAdd, Int.reduceMul, Int.reduceSub, Int.reduceNeg, Int.reduceToNat, q5], by simp -implicitDefEqProofs (disch := first | omega | (simp only [St.set_n, St.up_n, List.length_cons, List.length_nil]; omega)) only [go_sem, Nat.reduceAdd, Nat.reduceMul, Nat.reduceSub, Int.reduceAdd, Int.reduceMul, Int.reduceSub, Int.reduceNeg, Int.reduceToNat, hd]⟩, ⟨hq2, hI3, by have := hM.n; simp only [St.set_n] at hn4; omega, fun c y hc hcq hx => ?_⟩⟩
        obtain ⟨h5, h6⟩ := hfr c y hcq (hM.old c y hc hcq hx)
        exact hk4 c y hcq (by simp -implicitDefEqProofs (disch := first | omega | (simp only [St.set_n, St.up_n, List.length_cons, List.length_nil]; omega)) only [go_sem, Nat.reduceAdd, Nat.reduceMul, Nat.reduceSub, Int.reduceAdd, Int.reduceMul, Int.reduceSub, Int.reduceNeg, Int.reduceToNat, h5]) h6
      · obtain ⟨_, h1, h2, h3, h4, h5⟩ := hcase.resolve_left fun h => by rw [hb] at h; cases h.1
        refine SemS.wp fun _ => ?_
        simp -implicitDefEqProofs (disch := first | omega | (simp only [St.set_n, St.up_n, List.length_cons, List.length_nil]; omega)) only [go_sem, Nat.reduceAdd, Nat.reduceMul, Nat.reduceSub, Int.reduceAdd, Int.reduceMul, Int.reduceSub, Int.reduceNeg, Int.reduceToNat]
        exact ⟨_, h3, _, To.refl _ _, k', a2, vs2, rfl, h2, ⟨q4, q5, hd⟩, hM, h1, h4, h5⟩
    · rintro e s4 hws4 ⟨vs', ⟨q4, q5, hd⟩, hM⟩
      refine SemS.openO hM.m fun vv τ hwτ hnτ hO hfr => SemS.wp fun _ => ?_
      obtain ⟨v1, v2, rfl, o1, o2⟩ := hO.own.two
      have hr := hO.root
      simp only [mRoot_two] at hr
      have hx : τ.m σ.n = some (.raw (.cells #[.slice none 0 0, .int .i64 0, .int .i64 0] 54 (0, 0))) := (hfr _ _ (Ne.symm hqn) (hM.old _ _ (.inl (.inr rfl)) (Ne.symm hqn) hx4)).1
      have hb1 : blk v1 ≠ some σ.n := (hfr _ _ (Ne.symm hqn) (hM.old _ _ (.inl (.inr rfl)) (Ne.symm hqn) hx4)).2.1
      obtain ⟨Av, cv, rfl, _⟩ := o1.is
      simp -implicitDefEqProofs (disch := first | omega | (simp only [St.set_n, St.up_n, List.length_cons, List.length_nil]; omega)) only [go_sem, Nat.reduceAdd, Nat.reduceMul, Nat.reduceSub, Int.reduceAdd, Int.reduceMul, Int.reduceSub, Int.reduceNeg, Int.reduceToNat, q4, q5, hr, hx, hd]
      have hI2 := Y.stable (inv_open hM.I hG2 hO.apart hnτ (fun v hv b hb => by obtain ⟨o, ho'⟩ := hO.own.at_ v hv b hb; exact (hwτ.2 _ _ ho').2) hfr) (s' := τ.set σ.n (.raw (.cells #[.slice Av R.1.mv.length cv, .int .i64 R.1.ca, .int .i64 R.2] 54 (0, 0)))) (fun c y hc hx => by
        have : c ≠ σ.n := fun e => hc (.inl (.inl (.inr e)))
        simp -implicitDefEqProofs (disch := first | omega | (simp only [St.set_n, St.up_n, List.length_cons, List.length_nil]; omega)) only [go_sem, Nat.reduceAdd, Nat.reduceMul, Nat.reduceSub, Int.reduceAdd, Int.reduceMul, Int.reduceSub, Int.reduceNeg, Int.reduceToNat, hx]) (Nat.le_refl _)
      refine ⟨_, To.refl _ _, hK _ vs' _ (o1.keepR fun b o hb ho => ?_) (Y.weak hI2 fun c hc => .inl (.inl (.inl hc))) (by have := hM.n; simp only [St.set_n]; omega) fun c y hc hx => ?_⟩
      · have : b ≠ σ.n := fun e => hb1 (e ▸ hb)
        simp -implicitDefEqProofs (disch := first | omega | (simp only [St.set_n, St.up_n, List.length_cons, List.length_nil]; omega)) only [go_sem, Nat.reduceAdd, Nat.reduceMul, Nat.reduceSub, Int.reduceAdd, Int.reduceMul, Int.reduceSub, Int.reduceNeg, Int.reduceToNat, ho]
      · have hcn := (hwf.2 _ _ hx).2
        have hcq : c ≠ q := fun e => by
          have := hk1 c hcn
          rw [e, hq0, ← e, hx] at this
          cases this
        have h5 := (hfr c y hcq (hM.old c y (.inl (.inl hc)) hcq ((hk1 c hcn).trans hx))).1
        simp -implicitDefEqProofs (disch := first | omega | (simp only [St.set_n, St.up_n, List.length_cons, List.length_nil]; omega)) only [go_sem, Nat.reduceAdd, Nat.reduceMul, Nat.reduceSub, Int.reduceAdd, Int.reduceMul, Int.reduceSub, Int.reduceNeg, Int.reduceToNat, h5]
end
end Go.Proofs.YtdbgeahmhfocaaaGreat
