/- 'StepOne': its last run: contracts. -/
import Derived.Test.YtdbgeahmhfocaaaOneC
namespace Go.Proofs.Ytdbgeahmhfocaaa
set_option linter.unusedSimpArgs false
set_option linter.unusedVariables false
set_option maxRecDepth 100000
open Go Go.RowKit
section
variable {B : World} {K : Value → St → Prop} {s : St}
theorem then_nil (hK : K .nilFunc s) : Fn Try.prog B 38 #[.nilFunc] s K := by
  refine Fn.of is38 (by simp) fun hwf => ?_
  simp only [b38, Try.f38, Option.getD_some]
  simp -implicitDefEqProofs (disch := first | omega | (simp only [St.set_n, St.up_n, List.length_cons, List.length_nil]; omega)) only [go_sem, Nat.reduceAdd, Nat.reduceMul, Nat.reduceSub, Int.reduceAdd, Int.reduceMul, Int.reduceSub, Int.reduceNeg, Int.reduceToNat]
  exact hK
theorem locks_nil {gv : Value} {u : Int} (hg : PtV gv) (hK : ∀ s', (∀ c y, s.m c = some y → s'.m c = some y) → s.n ≤ s'.n → K .nilFunc s') : Fn Try.prog B 10 #[gv, .slice none 0 0, .int .i64 u, .nilFunc] s K := by
  refine Fn.of is10 (by simp) fun hwf => ?_
  simp only [b10, Try.f10, Option.getD_some]
  simp -implicitDefEqProofs (disch := first | omega | (simp only [St.set_n, St.up_n, List.length_cons, List.length_nil]; omega)) only [go_sem, Nat.reduceAdd, Nat.reduceMul, Nat.reduceSub, Int.reduceAdd, Int.reduceMul, Int.reduceSub, Int.reduceNeg, Int.reduceToNat, hg.one.1, hg.one.2]
  refine callF_of (then_nil ?_)
  simp -implicitDefEqProofs (disch := first | omega | (simp only [St.set_n, St.up_n, List.length_cons, List.length_nil]; omega)) only [go_sem, Nat.reduceAdd, Nat.reduceMul, Nat.reduceSub, Int.reduceAdd, Int.reduceMul, Int.reduceSub, Int.reduceNeg, Int.reduceToNat]
  exact hK _ (fun c y hx => by have := (hwf.2 _ _ hx).2; simp -implicitDefEqProofs (disch := first | omega | (simp only [St.set_n, St.up_n, List.length_cons, List.length_nil]; omega)) only [go_sem, Nat.reduceAdd, Nat.reduceMul, Nat.reduceSub, Int.reduceAdd, Int.reduceMul, Int.reduceSub, Int.reduceNeg, Int.reduceToNat, hx]) (by simp only [St.up_n]; omega)
theorem free_nil {gv : Value} {u : Int} (hg : PtV gv) (hK : ∀ s', (∀ c y, s.m c = some y → s'.m c = some y) → s.n ≤ s'.n → K .nilFunc s') : Fn Try.prog B 22 #[gv, .slice none 0 0, .int .i64 u, .nilFunc] s K := by
  refine Fn.of is22 (by simp) fun hwf => ?_
  simp only [b22, Try.f22, Option.getD_some]
  simp -implicitDefEqProofs (disch := first | omega | (simp only [St.set_n, St.up_n, List.length_cons, List.length_nil]; omega)) only [go_sem, Nat.reduceAdd, Nat.reduceMul, Nat.reduceSub, Int.reduceAdd, Int.reduceMul, Int.reduceSub, Int.reduceNeg, Int.reduceToNat, hg.one.1, hg.one.2]
  refine callF_of (then_nil ?_)
  simp -implicitDefEqProofs (disch := first | omega | (simp only [St.set_n, St.up_n, List.length_cons, List.length_nil]; omega)) only [go_sem, Nat.reduceAdd, Nat.reduceMul, Nat.reduceSub, Int.reduceAdd, Int.reduceMul, Int.reduceSub, Int.reduceNeg, Int.reduceToNat]
  exact hK _ (fun c y hx => by have := (hwf.2 _ _ hx).2; simp -implicitDefEqProofs (disch := first | omega | (simp only [St.set_n, St.up_n, List.length_cons, List.length_nil]; omega)) only [go_sem, Nat.reduceAdd, Nat.reduceMul, Nat.reduceSub, Int.reduceAdd, Int.reduceMul, Int.reduceSub, Int.reduceNeg, Int.reduceToNat, hx]) (by simp only [St.up_n]; omega)
def thH (bl : Nat) (u : L3) : HF := fun c => if c = bl then some (.raw (.cells (flat fLk (lksA 1 u)).toArray 54 (0, 0))) else none
variable {bl : Nat}
def thL (bl : Nat) : LkW L3 (thH bl) bl 1 where
  get := fun u => u
  set := fun _ l => l
  hb := fun u => by unfold thH; rw [if_pos rfl]
  hs := fun u l c hc => by unfold thH; simp only [if_neg hc]
  gs := fun u l => rfl
theorem th_0 : lkPtr bl 1 0 = .pointer (some ⟨bl, 0, none⟩) := by unfold lkPtr; rw [if_pos (by omega)]; rfl
theorem th_1 : lkPtr bl 1 1 = .pointer none := by unfold lkPtr; rw [if_neg (by omega)]
theorem th_call {k : Nat} {G : Nat → Prop} {x : L3 × (Nat → List Act)} {vs : List Value} {lv : Value} {i : Int} (hI : LgI (tL (B := B) (thH bl)) k G x vs s) (hw : s.wf B) (hl : lkPtr bl 1 i = lv)
    (hK : ∀ v s', LgI (tL (B := B) (thH bl)) (k + 1) G (x.1, updL x.2 k [.lk i]) (vs ++ [v]) s' → (∀ c y, G c → s.m c = some y → s'.m c = some y) → s.n ≤ s'.n → s'.wf B → StV v → K v s') : Fn Try.prog B 34 #[lv, .int .i64 3, .nilFunc] s K := by
  subst hl
  exact LgI.call hI hw (fun G' K' hE hK' => lock_of (L := tL (B := B) (thH bl)) (t := k) (n := 0) (a := .lk i) (r := []) (ok := tryO (thL bl) 3 i) (φ := tryW (thL bl) 3 i) (ψ := fun u => (u, [])) (lkPtr_pt _ _ _) (try_ok (thL bl) 3 i) (.inl ⟨rfl, fun u => rfl⟩) (fun u => ⟨rfl, fun _ => rfl, fun _ => ⟨rfl, rfl⟩⟩) hE hK') hK
theorem o3_eq (u : L3) : (u, updL (updL (fun _ => []) 0 [Act.lk 0]) 1 [Act.lk 1]) = o3S u := by
  unfold o3S
  congr 1
  funext t
  unfold updL
  match t with
  | 0 => rfl
  | 1 => rfl
  | t + 2 => simp
theorem two_one {v0 v1 : Value} (h0 : StV v0) (h1 : StV v1) : ∀ v ∈ [v0, v1], v.cells = #[v] := by
  intro v hv
  simp only [List.mem_cons, List.not_mem_nil, or_false] at hv
  rcases hv with rfl | rfl
  · exact h0.one.1
  · exact h1.one.1
end
end Go.Proofs.Ytdbgeahmhfocaaa
