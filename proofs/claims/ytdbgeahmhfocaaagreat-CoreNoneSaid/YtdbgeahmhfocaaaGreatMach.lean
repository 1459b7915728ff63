/- Threads that take turns: the machine: what is left, is it full. -/
import Derived.Test.YtdbgeahmhfocaaaGreatFacts
namespace Go.Proofs.YtdbgeahmhfocaaaGreat
set_option linter.unusedSimpArgs false
set_option linter.unusedVariables false
set_option maxRecDepth 100000
open Go Go.RowKit
section
variable {B : World} {σ τ : St} {K : Value → St → Prop}

def isFn : Value → Bool
  | .nilFunc => false
  | _ => true
/-- A step: none, or a function. -/
def StV (v : Value) : Prop := v = .nilFunc ∨ ∃ f c1 c2, v = .func (.func f) c1 c2
theorem step_is {v : Value} (hv : StV v) (hK : K (.bool (isFn v)) σ) : Fn Tryz.prog B 67 #[v] σ K := by
  refine Fn.of is67 (by simp) fun hwf => ?_
  rcases hv with rfl | ⟨f, c1, c2, rfl⟩
  · simp only [b67, Tryz.f67, Option.getD_some]
    simp -implicitDefEqProofs (disch := first | omega | (simp only [St.set_n, St.up_n, List.length_cons, List.length_nil]; omega)) only [go_sem, Nat.reduceAdd, Nat.reduceMul, Nat.reduceSub, Int.reduceAdd, Int.reduceMul, Int.reduceSub, Int.reduceNeg, Int.reduceToNat]
    exact hK
  · simp only [b67, Tryz.f67, Option.getD_some]
    simp -implicitDefEqProofs (disch := first | omega | (simp only [St.set_n, St.up_n, List.length_cons, List.length_nil]; omega)) only [go_sem, Nat.reduceAdd, Nat.reduceMul, Nat.reduceSub, Int.reduceAdd, Int.reduceMul, Int.reduceSub, Int.reduceNeg, Int.reduceToNat]
    exact hK
structure IxS (A : Option Addr) (n c i : Nat) (e : Fr) : Prop where
  v0 : e.v 0 = .slice A n c
  v1 : e.v 1 = .func (.func 67) #[] #[]
  v7 : e.v 7 = .int .i64 n
  v8 : e.v 8 = .int .i64 i
  d : e.d = []
theorem vs_get {vs : List Value} {i : Nat} {x : Value} (h : vs[i]? = some x) (sp : List Value) : (vs ++ sp)[i]? = some x := by
  rw [List.getElem?_append_left (List.getElem?_eq_some_iff.1 h).1]; exact h
theorem step_index {vs : List Value} {v : Value} (hl : vs.length ≤ 100000) (hv : ∀ u ∈ vs, StV u) (ho : Own σ 50 1 vs vs.length v) (hK : ∀ r : Int, decide (0 ≤ r) = vs.any isFn → K (.int .i64 r) σ) :
    Fn Tryz.prog B 85 #[v, .func (.func 67) #[] #[]] σ K := by
  obtain ⟨A, c, rfl, hc⟩ := ho.is
  refine Fn.of is85 (by simp) fun hwf => ?_
  simp only [b85, Tryz.f85, Option.getD_some]
  simp -implicitDefEqProofs (disch := first | omega | (simp only [St.set_n, St.up_n, List.length_cons, List.length_nil]; omega)) only [go_sem, Nat.reduceAdd, Nat.reduceMul, Nat.reduceSub, Int.reduceAdd, Int.reduceMul, Int.reduceSub, Int.reduceNeg, Int.reduceToNat]
  refine loop_rule (fun m e s => ∃ i : Nat, m = vs.length - i ∧ i ≤ vs.length ∧ IxS A vs.length c i e ∧ s = σ ∧ ∀ j y, j < i → vs[j]? = some y → isFn y = false) vs.length ?_ ?_
  · exact ⟨0, by omega, by omega, ⟨by simp -implicitDefEqProofs (disch := first | omega | (simp only [St.set_n, St.up_n, List.length_cons, List.length_nil]; omega)) only [go_sem, Nat.reduceAdd, Nat.reduceMul, Nat.reduceSub, Int.reduceAdd, Int.reduceMul, Int.reduceSub, Int.reduceNeg, Int.reduceToNat], by simp -implicitDefEqProofs (disch := first | omega | (simp only [St.set_n, St.up_n, List.length_cons, List.length_nil]; omega)) only [go_sem, Nat.reduceAdd, Nat.reduceMul, Nat.reduceSub, Int.reduceAdd, Int.reduceMul, Int.reduceSub, Int.reduceNeg, Int.reduceToNat], by simp -implicitDefEqProofs (disch := first | omega | (simp only [St.set_n, St.up_n, List.length_cons, List.length_nil]; omega)) only [go_sem, Nat.reduceAdd, Nat.reduceMul, Nat.reduceSub, Int.reduceAdd, Int.reduceMul, Int.reduceSub, Int.reduceNeg, Int.reduceToNat], by simp -implicitDefEqProofs (disch := first | omega | (simp only [St.set_n, St.up_n, List.length_cons, List.length_nil]; omega)) only [go_sem, Nat.reduceAdd, Nat.reduceMul, Nat.reduceSub, Int.reduceAdd, Int.reduceMul, Int.reduceSub, Int.reduceNeg, Int.reduceToNat]; rfl, by simp -implicitDefEqProofs (disch := first | omega | (simp only [St.set_n, St.up_n, List.length_cons, List.length_nil]; omega)) only [go_sem, Nat.reduceAdd, Nat.reduceMul, Nat.reduceSub, Int.reduceAdd, Int.reduceMul, Int.reduceSub, Int.reduceNeg, Int.reduceToNat]⟩, rfl, fun j y hj _ => by omega⟩
  · rintro m e s hws ⟨i, hm, hi, ⟨q0, q1, q7, q8, hd⟩, rfl, hall⟩
    by_cases hlt : (i : Int) < vs.length
    · obtain ⟨x, hx⟩ : ∃ x, vs[i]? = some x := ⟨vs[i]'(by omega), List.getElem?_eq_getElem (by omega)⟩
      obtain ⟨b1, c1, sp1, e1, _, m1, _, _⟩ := ho.has (by omega)
      cases e1
      have g1 := vs_get hx sp1
      simp -implicitDefEqProofs (disch := first | omega | (simp only [St.set_n, St.up_n, List.length_cons, List.length_nil]; omega)) only [go_sem, Nat.reduceAdd, Nat.reduceMul, Nat.reduceSub, Int.reduceAdd, Int.reduceMul, Int.reduceSub, Int.reduceNeg, Int.reduceToNat, q0, q1, q7, q8, hlt, m1, g1]
      refine callF_of (step_is (hv x (List.mem_of_getElem? hx)) ?_)
      cases hf : isFn x with
      | true =>
        simp -implicitDefEqProofs (disch := first | omega | (simp only [St.set_n, St.up_n, List.length_cons, List.length_nil]; omega)) only [go_sem, Nat.reduceAdd, Nat.reduceMul, Nat.reduceSub, Int.reduceAdd, Int.reduceMul, Int.reduceSub, Int.reduceNeg, Int.reduceToNat, hd]
        refine hK _ ?_
        have h1 : vs.any isFn = true := List.any_eq_true.2 ⟨x, List.mem_of_getElem? hx, hf⟩
        rw [h1]; simp
      | false =>
        simp -implicitDefEqProofs (disch := first | omega | (simp only [St.set_n, St.up_n, List.length_cons, List.length_nil]; omega)) only [go_sem, Nat.reduceAdd, Nat.reduceMul, Nat.reduceSub, Int.reduceAdd, Int.reduceMul, Int.reduceSub, Int.reduceNeg, Int.reduceToNat, q8]
        refine ⟨vs.length - (i + 1), by omega, i + 1, rfl, by omega, ⟨by simp -implicitDefEqProofs (disch := first | omega | (simp only [St.set_n, St.up_n, List.length_cons, List.length_nil]; omega)) only [go_sem, Nat.reduceAdd, Nat.reduceMul, Nat.reduceSub, Int.reduceAdd, Int.reduceMul, Int.reduceSub, Int.reduceNeg, Int.reduceToNat, q0], by simp -implicitDefEqProofs (disch := first | omega | (simp only [St.set_n, St.up_n, List.length_cons, List.length_nil]; omega)) only [go_sem, Nat.reduceAdd, Nat.reduceMul, Nat.reduceSub, Int.reduceAdd, Int.reduceMul, Int.reduceSub, Int.reduceNeg, Int.reduceToNat, q1], by simp -implicitDefEqProofs (disch := first | omega | (simp only [St.set_n, St.up_n, List.length_cons, List.length_nil]; omega)) only [go_sem, Nat.reduceAdd, Nat.reduceMul, Nat.reduceSub, Int.reduceAdd, Int.reduceMul, Int.reduceSub, Int.reduceNeg, Int.reduceToNat, q7], by simp -implicitDefEqProofs (disch := first | omega | (simp only [St.set_n, St.up_n, List.length_cons, List.length_nil]; omega)) only [go_sem, Nat.reduceAdd, Nat.reduceMul, Nat.reduceSub, Int.reduceAdd, Int.reduceMul, Int.reduceSub, Int.reduceNeg, Int.reduceToNat]; simp, by simp -implicitDefEqProofs (disch := first | omega | (simp only [St.set_n, St.up_n, List.length_cons, List.length_nil]; omega)) only [go_sem, Nat.reduceAdd, Nat.reduceMul, Nat.reduceSub, Int.reduceAdd, Int.reduceMul, Int.reduceSub, Int.reduceNeg, Int.reduceToNat, hd]⟩, fun j y hj hy => ?_⟩
        by_cases hji : j = i
        · subst hji; rw [hx] at hy; cases hy; exact hf
        · exact hall j y (by omega) hy
    · simp -implicitDefEqProofs (disch := first | omega | (simp only [St.set_n, St.up_n, List.length_cons, List.length_nil]; omega)) only [go_sem, Nat.reduceAdd, Nat.reduceMul, Nat.reduceSub, Int.reduceAdd, Int.reduceMul, Int.reduceSub, Int.reduceNeg, Int.reduceToNat, q7, q8, hlt, hd]
      refine hK _ ?_
      have h1 : vs.any isFn = false := by
        rw [List.any_eq_false]
        intro y hy
        obtain ⟨j, hj⟩ := List.getElem?_of_mem hy
        have := hall j y (by have := (List.getElem?_eq_some_iff.1 hj).1; omega) hj
        simp [this]
      rw [h1]; rfl
theorem step_any {vs : List Value} {v : Value} (hl : vs.length ≤ 100000) (hv : ∀ u ∈ vs, StV u) (ho : Own σ 50 1 vs vs.length v) (hK : K (.bool (vs.any isFn)) σ) :
    Fn Tryz.prog B 66 #[v, .func (.func 67) #[] #[]] σ K := by
  refine Fn.of is66 (by simp) fun hwf => ?_
  simp only [b66, Tryz.f66, Option.getD_some]
  simp -implicitDefEqProofs (disch := first | omega | (simp only [St.set_n, St.up_n, List.length_cons, List.length_nil]; omega)) only [go_sem, Nat.reduceAdd, Nat.reduceMul, Nat.reduceSub, Int.reduceAdd, Int.reduceMul, Int.reduceSub, Int.reduceNeg, Int.reduceToNat]
  refine callF_of (step_index hl hv ho fun r hr => ?_)
  simp -implicitDefEqProofs (disch := first | omega | (simp only [St.set_n, St.up_n, List.length_cons, List.length_nil]; omega)) only [go_sem, Nat.reduceAdd, Nat.reduceMul, Nat.reduceSub, Int.reduceAdd, Int.reduceMul, Int.reduceSub, Int.reduceNeg, Int.reduceToNat]
  rw [hr]; exact hK

/-! ### The machine -/
structure MM where
  mv : List Int
  ca : Int
  er : Int
  nx : List Value
def mRoot (ca er : Int) : List Value → List Value
  | [a, b] => [a, .int .i64 ca, .int .i64 er, b]
  | _ => []
@[go_sem] theorem mRoot_two {ca er : Int} {a b : Value} : mRoot ca er [a, b] = [a, .int .i64 ca, .int .i64 er, b] := rfl
def spM (M : MM) : List Sp := [⟨3, 1, ints M.mv, M.mv.length⟩, ⟨50, 1, M.nx, M.nx.length⟩]
abbrev MaR (M : MM) (q : Nat) : Heaplet → Prop := Obj 114 (mRoot M.ca M.er) (spM M) q
theorem m_left_o {q : Nat} {v1 v2 : Value} {ca er : Int} {nx : List Value} (hr : σ.m q = some (.raw (.cells #[v1, .int .i64 ca, .int .i64 er, v2] 114 (0, 0)))) (ho : Own σ 50 1 nx nx.length v2) (hl : nx.length ≤ 100000) (hv : ∀ u ∈ nx, StV u) (hK : K (.bool (nx.any isFn)) σ) : Fn Tryz.prog B 42 #[.pointer (some ⟨q, 0, none⟩)] σ K := by
  refine Fn.of is42 (by simp) fun hwf => ?_
  simp only [b42, Tryz.f42, Option.getD_some]
  simp -implicitDefEqProofs (disch := first | omega | (simp only [St.set_n, St.up_n, List.length_cons, List.length_nil]; omega)) only [go_sem, Nat.reduceAdd, Nat.reduceMul, Nat.reduceSub, Int.reduceAdd, Int.reduceMul, Int.reduceSub, Int.reduceNeg, Int.reduceToNat, hr]
  refine callF_of (step_any hl hv ho ?_)
  simp -implicitDefEqProofs (disch := first | omega | (simp only [St.set_n, St.up_n, List.length_cons, List.length_nil]; omega)) only [go_sem, Nat.reduceAdd, Nat.reduceMul, Nat.reduceSub, Int.reduceAdd, Int.reduceMul, Int.reduceSub, Int.reduceNeg, Int.reduceToNat]
  exact hK
theorem m_full_o {q : Nat} {v1 v2 : Value} {ca er : Int} {mv : List Int} {nx : List Value} (hr : σ.m q = some (.raw (.cells #[v1, .int .i64 ca, .int .i64 er, v2] 114 (0, 0)))) (h1 : Own σ 3 1 (ints mv) mv.length v1) (ho : Own σ 50 1 nx nx.length v2) (hl : nx.length ≤ 100000) (hml : mv.length ≤ 100000) (hv : ∀ u ∈ nx, StV u)
    (hK : K (.bool (decide (65536 ≤ mv.length) && nx.any isFn)) σ) : Fn Tryz.prog B 40 #[.pointer (some ⟨q, 0, none⟩)] σ K := by
  obtain ⟨A1, c1, rfl, _⟩ := h1.is
  refine Fn.of is40 (by simp) fun hwf => ?_
  simp only [b40, Tryz.f40, Option.getD_some]
  by_cases h : (65536 : Int) ≤ mv.length
  · have h' : 65536 ≤ mv.length := by omega
    simp only [h', decide_true, Bool.true_and] at hK
    simp -implicitDefEqProofs (disch := first | omega | (simp only [St.set_n, St.up_n, List.length_cons, List.length_nil]; omega)) only [go_sem, Nat.reduceAdd, Nat.reduceMul, Nat.reduceSub, Int.reduceAdd, Int.reduceMul, Int.reduceSub, Int.reduceNeg, Int.reduceToNat, hr, h]
    refine callF_of (m_left_o hr ho hl hv ?_)
    simp -implicitDefEqProofs (disch := first | omega | (simp only [St.set_n, St.up_n, List.length_cons, List.length_nil]; omega)) only [go_sem, Nat.reduceAdd, Nat.reduceMul, Nat.reduceSub, Int.reduceAdd, Int.reduceMul, Int.reduceSub, Int.reduceNeg, Int.reduceToNat]
    exact hK
  · have h' : ¬ 65536 ≤ mv.length := by omega
    simp only [h', decide_false, Bool.false_and] at hK
    simp -implicitDefEqProofs (disch := first | omega | (simp only [St.set_n, St.up_n, List.length_cons, List.length_nil]; omega)) only [go_sem, Nat.reduceAdd, Nat.reduceMul, Nat.reduceSub, Int.reduceAdd, Int.reduceMul, Int.reduceSub, Int.reduceNeg, Int.reduceToNat, hr, h]
    exact hK
theorem Fn.closed {f : FuncId} {args : Array Value} {M : MM} {q : Nat} (hm : σ.m q = some (.comp (MaR M q))) (he : ∃ fn, Tryz.prog.funcs[f]? = some fn ∧ (fn.name == "runtime.NumGoroutine") = false ∧ fn.body.isSome = true) {r : Value}
    (h : ∀ (v1 v2 : Value) (τ : St) (K' : Value → St → Prop), τ.m q = some (.raw (.cells #[v1, .int .i64 M.ca, .int .i64 M.er, v2] 114 (0, 0))) → Own τ 3 1 (ints M.mv) M.mv.length v1 → Own τ 50 1 M.nx M.nx.length v2 → K' r τ → Fn Tryz.prog B f args τ K')
    (hK : K r σ) : Fn Tryz.prog B f args σ K := by
  refine Fn.openO hm he fun vs τ hwf hn hr ho ha hk => ?_
  obtain ⟨v1, v2, rfl, o1, o2⟩ := ho.two
  refine (h v1 v2 τ (fun v s => v = r ∧ s = τ) hr o1 o2 ⟨rfl, rfl⟩).conseq ?_
  rintro v s ⟨rfl, rfl⟩
  refine ⟨_, To.closeO [v1, v2] hr ho ha hk, ?_⟩
  rw [St.set_same hm, hn]
  exact hK
theorem m_left {M : MM} {q : Nat} (hm : σ.m q = some (.comp (MaR M q))) (hl : M.nx.length ≤ 100000) (hv : ∀ u ∈ M.nx, StV u) (hK : K (.bool (M.nx.any isFn)) σ) : Fn Tryz.prog B 42 #[.pointer (some ⟨q, 0, none⟩)] σ K :=
  Fn.closed hm is42.en (fun v1 v2 τ K' hr h1 h2 hk => m_left_o hr h2 hl hv hk) hK
theorem m_full {M : MM} {q : Nat} (hm : σ.m q = some (.comp (MaR M q))) (hl : M.nx.length ≤ 100000) (hml : M.mv.length ≤ 100000) (hv : ∀ u ∈ M.nx, StV u) (hK : K (.bool (decide (65536 ≤ M.mv.length) && M.nx.any isFn)) σ) : Fn Tryz.prog B 40 #[.pointer (some ⟨q, 0, none⟩)] σ K :=
  Fn.closed hm is40.en (fun v1 v2 τ K' hr h1 h2 hk => m_full_o hr h1 h2 hl hml hv hk) hK

/-! ### A system of steps -/
structure Sys (B : World) where
  X : Type
  n : Nat
  live : X → Nat → Bool
  tr : X → Nat → X × Bool
  Inv : (Nat → Prop) → X → List Value → St → Prop
  len : ∀ {G x vs s}, Inv G x vs s → vs.length = n
  val : ∀ {G x vs s t v}, Inv G x vs s → vs[t]? = some v → (live x t = false ∧ v = .nilFunc) ∨ (live x t = true ∧ ∃ f c1 c2, v = .func (.func f) c1 c2)
  fresh : ∀ {G x vs s q}, Inv G x vs s → s.m q = none → q < s.n → Inv (fun c => G c ∨ c = q) x vs s
  weak : ∀ {G G' x vs s}, Inv G' x vs s → (∀ c, G c → G' c) → Inv G x vs s
  stable : ∀ {G x vs s s'}, Inv G x vs s → (∀ c y, ¬ G c → s.m c = some y → s'.m c = some y) → s.n ≤ s'.n → Inv G x vs s'
  step : ∀ {G x vs s t f c1 c2}, s.wf B → Inv G x vs s → live x t = true → vs[t]? = some (.func (.func f) c1 c2) →
    Fn Tryz.prog B f (c1 ++ c2) s fun r s' => ∃ v', r = .tuple #[v', .bool (tr x t).2] ∧ StV v' ∧ Inv G (tr x t).1 (if (tr x t).2 then vs.set t v' else vs) s' ∧ s.n ≤ s'.n ∧ ∀ c y, G c → s.m c = some y → s'.m c = some y

namespace Sys
variable (Y : Sys B)
structure MA where
  x : Y.X
  mv : List Int
  ca : Nat
variable {Y}
def turnA (a : Y.MA) (t : Int) : Y.MA × Bool :=
  if 0 ≤ t ∧ t < Y.n ∧ Y.live a.x t.toNat = true then
    (⟨(Y.tr a.x t.toNat).1, if (Y.tr a.x t.toNat).2 then a.mv ++ [t] else a.mv, a.ca + 1⟩, (Y.tr a.x t.toNat).2)
  else (a, false)
def leftA (x : Y.X) : Bool := (List.range Y.n).any (Y.live x)
def fullA (a : Y.MA) : Bool := decide (65536 ≤ a.mv.length) && leftA a.x
def picksA : Y.MA → List Int → Y.MA
  | a, [] => a
  | a, p :: ps => if fullA a then a else picksA (turnA a p).1 ps
/-- A round from the i-th thread on, 'k' threads. -/
def roundA : Y.MA → Nat → Bool → Nat → Y.MA × Bool
  | a, _, y, 0 => (a, y)
  | a, i, y, k + 1 => if fullA a then (a, false) else roundA (turnA a i).1 (i + 1) (y || (turnA a i).2) k
def loopA : Nat → Y.MA → Y.MA × Int
  | 0, a => (a, 12)
  | k + 1, a => if leftA a.x then (if fullA a then (a, 12) else (if (roundA a 0 false Y.n).2 then loopA k (roundA a 0 false Y.n).1 else ((roundA a 0 false Y.n).1, 12))) else (a, 0)
end Sys
theorem left_any {Y : Sys B} {G : Nat → Prop} {x : Y.X} {vs : List Value} {s : St} (h : Y.Inv G x vs s) : vs.any isFn = Sys.leftA x := by
  have hl := Y.len h
  unfold Sys.leftA
  rw [Bool.eq_iff_iff, List.any_eq_true, List.any_eq_true]
  constructor
  · rintro ⟨v, hv, hf⟩
    obtain ⟨t, ht⟩ := List.getElem?_of_mem hv
    refine ⟨t, List.mem_range.2 (by have := (List.getElem?_eq_some_iff.1 ht).1; omega), ?_⟩
    rcases Y.val h ht with ⟨_, rfl⟩ | ⟨h1, _⟩
    · cases hf
    · exact h1
  · rintro ⟨t, ht, hf⟩
    have ht' := List.mem_range.1 ht
    obtain ⟨v, hv⟩ : ∃ v, vs[t]? = some v := ⟨vs[t]'(by omega), List.getElem?_eq_getElem (by omega)⟩
    refine ⟨v, List.mem_of_getElem? hv, ?_⟩
    rcases Y.val h hv with ⟨h1, _⟩ | ⟨_, f, c1, c2, rfl⟩
    · rw [hf] at h1; cases h1
    · rfl
theorem vals_st {Y : Sys B} {G : Nat → Prop} {x : Y.X} {vs : List Value} {s : St} (h : Y.Inv G x vs s) : ∀ u ∈ vs, StV u := fun u hu => by
  obtain ⟨t, ht⟩ := List.getElem?_of_mem hu
  rcases Y.val h ht with ⟨_, h1⟩ | ⟨_, h1⟩
  · exact .inl h1
  · exact .inr h1
end
end Go.Proofs.YtdbgeahmhfocaaaGreat
