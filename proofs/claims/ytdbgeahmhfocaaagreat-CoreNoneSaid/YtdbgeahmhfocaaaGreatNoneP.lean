/- A nil core: contracts, by walks. -/
import Derived.Test.YtdbgeahmhfocaaaGreatAwkZ
namespace Go.Proofs.YtdbgeahmhfocaaaGreat
set_option linter.unusedSimpArgs false
set_option linter.unusedVariables false
set_option maxRecDepth 100000
open Go Go.RowKit
section
variable {B : World} {σ : St} {K : Value → St → Prop}
theorem ring_nil {sub : Int} (hK : K (.pointer none) σ) : Fn Tryz.prog B 31 #[.pointer none, .int .i64 sub] σ K := by
  refine Fn.of is31 (by simp) fun hwf => ?_
  simp only [b31, Tryz.f31, Option.getD_some]
  simp -implicitDefEqProofs (disch := first | omega | (simp only [St.set_n, St.up_n, List.length_cons, List.length_nil]; omega)) only [go_sem, Nat.reduceAdd, Nat.reduceMul, Nat.reduceSub, Int.reduceAdd, Int.reduceMul, Int.reduceSub, Int.reduceNeg, Int.reduceToNat]
  exact hK
theorem put_nil {sub : Int} {m : Mg} (hK : ∀ τ, σ.n ≤ τ.n → (∀ c y, σ.m c = some y → τ.m c = some y) → K (.bool false) τ) : Fn Tryz.prog B 10 #[.pointer none, .int .i64 sub, .agg (fM m).toArray] σ K := by
  refine Fn.of is10 (by simp) fun hwf => ?_
  simp only [b10, Tryz.f10, Option.getD_some]
  simp -implicitDefEqProofs (disch := first | omega | (simp only [St.set_n, St.up_n, List.length_cons, List.length_nil]; omega)) only [go_sem, Nat.reduceAdd, Nat.reduceMul, Nat.reduceSub, Int.reduceAdd, Int.reduceMul, Int.reduceSub, Int.reduceNeg, Int.reduceToNat, fM]
  refine effD_plan [0, 0, 3, 0, 15, 31] [0, 1, 3, 5] (.eag 0 (.eag 1 (.eagq 3 (.alt 2 [3] (.alt 4 [] (.eag 5 .fin) .stop) .stop)))) (by kernel_rfl) ?_
  simp -implicitDefEqProofs (disch := first | omega | (simp only [St.set_n, St.up_n, List.length_cons, List.length_nil]; omega)) only [go_sem, Nat.reduceAdd, Nat.reduceMul, Nat.reduceSub, Int.reduceAdd, Int.reduceMul, Int.reduceSub, Int.reduceNeg, Int.reduceToNat]
  have hk1 : ∀ c y, σ.m c = some y → ((σ.set σ.n (.raw (.cells #[.string m.topic, .string m.pay, .bool m.kept] 40 (0, 0)))).up (σ.n + 1)).m c = some y := fun c y hc => by
    have := (hwf.2 _ _ hc).2
    simp -implicitDefEqProofs (disch := first | omega | (simp only [St.set_n, St.up_n, List.length_cons, List.length_nil]; omega)) only [go_sem, Nat.reduceAdd, Nat.reduceMul, Nat.reduceSub, Int.reduceAdd, Int.reduceMul, Int.reduceSub, Int.reduceNeg, Int.reduceToNat, hc]
  refine callF_of (ring_nil ?_)
  simp -implicitDefEqProofs (disch := first | omega | (simp only [St.set_n, St.up_n, List.length_cons, List.length_nil]; omega)) only [go_sem, Nat.reduceAdd, Nat.reduceMul, Nat.reduceSub, Int.reduceAdd, Int.reduceMul, Int.reduceSub, Int.reduceNeg, Int.reduceToNat]
  have e0 : (#[.string m.topic, .string m.pay, .bool m.kept] : Array Value) = (fM m).toArray := rfl
  rw [e0]
  refine callF_of (ring_put_nil fun τ hn hk => ?_)
  simp only [St.up_n] at hn
  simp -implicitDefEqProofs (disch := first | omega | (simp only [St.set_n, St.up_n, List.length_cons, List.length_nil]; omega)) only [go_sem, Nat.reduceAdd, Nat.reduceMul, Nat.reduceSub, Int.reduceAdd, Int.reduceMul, Int.reduceSub, Int.reduceNeg, Int.reduceToNat]
  exact hK _ (by omega) fun c y hx => hk c y (hk1 c y hx)
theorem quiet_nil (hK : K (.bool false) σ) : Fn Tryz.prog B 16 #[.pointer none] σ K := by
  refine Fn.of is16 (by simp) fun hwf => ?_
  simp only [b16, Tryz.f16, Option.getD_some]
  simp -implicitDefEqProofs (disch := first | omega | (simp only [St.set_n, St.up_n, List.length_cons, List.length_nil]; omega)) only [go_sem, Nat.reduceAdd, Nat.reduceMul, Nat.reduceSub, Int.reduceAdd, Int.reduceMul, Int.reduceSub, Int.reduceNeg, Int.reduceToNat]
  exact hK
theorem faults_nil (hK : K (.int .i64 0) σ) : Fn Tryz.prog B 17 #[.pointer none] σ K := by
  refine Fn.of is17 (by simp) fun hwf => ?_
  simp only [b17, Tryz.f17, Option.getD_some]
  simp -implicitDefEqProofs (disch := first | omega | (simp only [St.set_n, St.up_n, List.length_cons, List.length_nil]; omega)) only [go_sem, Nat.reduceAdd, Nat.reduceMul, Nat.reduceSub, Int.reduceAdd, Int.reduceMul, Int.reduceSub, Int.reduceNeg, Int.reduceToNat]
  exact hK
theorem idle_nil (hK : K (.int .i64 (-1)) σ) : Fn Tryz.prog B 18 #[.pointer none] σ K := by
  refine Fn.of is18 (by simp) fun hwf => ?_
  simp only [b18, Tryz.f18, Option.getD_some]
  simp -implicitDefEqProofs (disch := first | omega | (simp only [St.set_n, St.up_n, List.length_cons, List.length_nil]; omega)) only [go_sem, Nat.reduceAdd, Nat.reduceMul, Nat.reduceSub, Int.reduceAdd, Int.reduceMul, Int.reduceSub, Int.reduceNeg, Int.reduceToNat]
  refine callF_of (quiet_nil ?_)
  simp -implicitDefEqProofs (disch := first | omega | (simp only [St.set_n, St.up_n, List.length_cons, List.length_nil]; omega)) only [go_sem, Nat.reduceAdd, Nat.reduceMul, Nat.reduceSub, Int.reduceAdd, Int.reduceMul, Int.reduceSub, Int.reduceNeg, Int.reduceToNat]
  exact hK
end
/-! ### What was got -/
def rootG : List Value → List Value
  | [v] => [v]
  | _ => []
@[go_sem] theorem rootG_one {v : Value} : rootG [v] = [v] := rfl
def spG (l : List Int) : List Sp := [⟨52, 1, ints l, l.length⟩]
abbrev GotR (l : List Int) (p : Nat) : Heaplet → Prop := Obj 62 rootG (spG l) p
section
variable {B : World} {σ : St} {K : Value → St → Prop}
theorem take_of {l : List Int} {p : Nat} {a : CAn} (hm : σ.m p = some (.comp (GotR l p))) (hl : l.length ≤ 100000) (hK : ∀ k, σ.n ≤ k → K .nilFunc ((σ.set p (.comp (GotR (l ++ [a.err]) p))).up k)) : Fn Tryz.prog B 19 #[.agg (fAn a).toArray, .pointer (some ⟨p, 0, none⟩)] σ K := by
  refine Fn.opn hm is19 (by simp) fun vs τ hn O => ?_
  obtain ⟨v, rfl, o1⟩ := O.own.one
  simp only at o1
  obtain ⟨A1, c1, rfl, hc1⟩ := o1.is
  have hroot := O.root
  simp only [rootG_one] at hroot
  have hpn := (O.wf.2 _ _ hroot).2
  simp only [b19, Tryz.f19, Option.getD_some]
  simp -implicitDefEqProofs (disch := first | omega | (simp only [St.set_n, St.up_n, List.length_cons, List.length_nil]; omega)) only [go_sem, Nat.reduceAdd, Nat.reduceMul, Nat.reduceSub, Int.reduceAdd, Int.reduceMul, Int.reduceSub, Int.reduceNeg, Int.reduceToNat, fAn, hroot]
  have O1 := O.new (.raw (.cells #[.int .i64 a.err, .int .i64 a.a, .int .i64 a.b, .string a.topic, .string a.pay, .bool a.kept] 64 (0, 0))) (k := τ.n + 1) (by omega)
  refine appO_one (O1.new (.raw (.cells #[.int .i64 a.err] 52 (0, 0))) (k := τ.n + 1 + 1) (by simp only [St.up_n]; omega)) 0 (b := τ.n + 1) (s := 1) (bts := 8) (ty' := 52) (fz := (0, 0)) (ys := [.int .i64 a.err]) rfl rfl se62 kd62 zr52 rfl (by omega) (by simp -implicitDefEqProofs (disch := first | omega | (simp only [St.set_n, St.up_n, List.length_cons, List.length_nil]; omega)) only [go_sem, Nat.reduceAdd, Nat.reduceMul, Nat.reduceSub, Int.reduceAdd, Int.reduceMul, Int.reduceSub, Int.reduceNeg, Int.reduceToNat]) rfl rfl (by omega) fun A' C' σ' hC' hp' hO hfr hn' => ?_
  have O2 := hO rootG
  simp only [List.set_cons_zero, List.set_cons_succ, rootG_one, spG] at O2 hp'
  simp -implicitDefEqProofs (disch := first | omega | (simp only [St.set_n, St.up_n, List.length_cons, List.length_nil]; omega)) only [go_sem, Nat.reduceAdd, Nat.reduceMul, Nat.reduceSub, Int.reduceAdd, Int.reduceMul, Int.reduceSub, Int.reduceNeg, Int.reduceToNat, hp']
  refine (O2.cast ?_).close hK
  simp [spG, ints]
/-! ### The world -/
def noU (p : Nat) (u : List Int) : HF := fun c => if c = p then some (.comp (GotR u p)) else none
def noX (_ : Nat) (u : List Int) (_ : Unit) : List Int × List Unit × Bool := (u ++ [4], [], true)
abbrev noL (p : Nat) : Lg B := hLg (List Int) Unit noX (fun _ u _ => u.length ≤ 100000) (noU p)
theorem noU_p {p : Nat} {u : List Int} : noU p u p = some (.comp (GotR u p)) := by unfold noU; rw [if_pos rfl]
theorem no_next {p : Nat} {t : Nat} {h : HF} : NxN (noL (B := B) p) t 0 (fun _ u => u.length ≤ 100000) (fun a u => (u ++ [a.err], [])) (.func (.func 19) #[] #[.pointer (some ⟨p, 0, none⟩)]) h := by
  refine ⟨_, _, _, rfl, fun a G (u : List Int) s he hp => ?_⟩
  refine take_of (he.at noU_p).1 hp fun k hk => ?_
  have := Aft.one (v := .nilFunc) (u' := u ++ [a.err]) he (b := p) (by rw [noU_p]; simp) hk noU_p fun c hc => by unfold noU; simp only [if_neg hc]
  exact this.mono fun h hr => ⟨rfl, rfl⟩
variable {G : Nat → Prop} {h : HF} {s : St} {t n : Nat}
theorem with_nil {p : Nat} {u : List Int} {who sub : Int} {f : Nat} {nv : Value} (hn : NxN (noL (B := B) p) t 0 (fun _ u => u.length ≤ 100000) (fun a u => (u ++ [a.err], [])) nv h) (he : Env (noL (B := B) p) h G u s)
    (hK : ∀ v' s', Aft (noL (B := B) p) (Rep (noL (B := B) p) t 1 [()]) G u s v' s' → s'.wf B → K v' s') :
    Fn Tryz.prog B 55 #[.pointer none, .int .i64 who, .int .i64 sub, .func (.func f) #[] #[], nv] s K := by
  refine Fn.of is55 (by simp) fun hwf => ?_
  have hB := hwf.1
  simp only [b55, Tryz.f55, Option.getD_some]
  simp -implicitDefEqProofs (disch := first | omega | (simp only [St.set_n, St.up_n, List.length_cons, List.length_nil]; omega)) only [go_sem, Nat.reduceAdd, Nat.reduceMul, Nat.reduceSub, Int.reduceAdd, Int.reduceMul, Int.reduceSub, Int.reduceNeg, Int.reduceToNat, hn.one.1, hn.one.2]
  have key : ∀ s1, s1 = (((((s.set s.n (.raw (.cells #[.pointer none] 27 (0, 0)))).set (s.n + 1) (.raw (.cells #[.int .i64 who] 3 (0, 0)))).set (s.n + 1 + 1) (.raw (.cells #[.func (.func f) #[] #[]] 129 (0, 0)))).set (s.n + 1 + 1 + 1) (.raw (.cells #[nv] 65 (0, 0)))).up (s.n + 1 + 1 + 1 + 1)) → (∀ c, c < s.n → s1.m c = s.m c) ∧ s1.wf B ∧ s.n + 1 + 1 + 1 + 1 = s1.n ∧ s1.m (s.n + 1 + 1 + 1) = some (.raw (.cells #[nv] 65 (0, 0))) := by
    rintro s1 rfl
    exact ⟨fun c hc => by simp -implicitDefEqProofs (disch := first | omega | (simp only [St.set_n, St.up_n, List.length_cons, List.length_nil]; omega)) only [go_sem, Nat.reduceAdd, Nat.reduceMul, Nat.reduceSub, Int.reduceAdd, Int.reduceMul, Int.reduceSub, Int.reduceNeg, Int.reduceToNat], set_wf1 (y := .raw (.cells #[nv] 65 (0, 0))) (set_wf1 (y := .raw (.cells #[.func (.func f) #[] #[]] 129 (0, 0))) (set_wf1 (y := .raw (.cells #[.int .i64 who] 3 (0, 0))) (set_wf1 (y := .raw (.cells #[.pointer none] 27 (0, 0))) hwf))), rfl, by simp -implicitDefEqProofs (disch := first | omega | (simp only [St.set_n, St.up_n, List.length_cons, List.length_nil]; omega)) only [go_sem, Nat.reduceAdd, Nat.reduceMul, Nat.reduceSub, Int.reduceAdd, Int.reduceMul, Int.reduceSub, Int.reduceNeg, Int.reduceToNat]⟩
  obtain ⟨hk1, hw1, hn0, mn⟩ := key _ rfl
  generalize ((((s.set s.n (.raw (.cells #[.pointer none] 27 (0, 0)))).set (s.n + 1) (.raw (.cells #[.int .i64 who] 3 (0, 0)))).set (s.n + 1 + 1) (.raw (.cells #[.func (.func f) #[] #[]] 129 (0, 0)))).set (s.n + 1 + 1 + 1) (.raw (.cells #[nv] 65 (0, 0)))).up (s.n + 1 + 1 + 1 + 1) = s1 at hk1 hw1 hn0 mn ⊢
  have he1 := he.grow hk1 (by omega) hw1
  refine callF_of (ring_nil ?_)
  have mnn := (hw1.2 _ _ mn).2
  simp -implicitDefEqProofs (disch := first | omega | (simp only [St.set_n, St.up_n, List.length_cons, List.length_nil]; omega)) only [go_sem, Nat.reduceAdd, Nat.reduceMul, Nat.reduceSub, Int.reduceAdd, Int.reduceMul, Int.reduceSub, Int.reduceNeg, Int.reduceToNat, mn]
  have hk2 : ∀ c, c < s1.n → ((s1.set s1.n (.raw (.cells #[.pointer none] 100 (0, 0)))).up (s1.n + 1)).m c = s1.m c := fun c hc => by simp -implicitDefEqProofs (disch := first | omega | (simp only [St.set_n, St.up_n, List.length_cons, List.length_nil]; omega)) only [go_sem, Nat.reduceAdd, Nat.reduceMul, Nat.reduceSub, Int.reduceAdd, Int.reduceMul, Int.reduceSub, Int.reduceNeg, Int.reduceToNat]
  have he2 := he1.grow hk2 (by simp only [St.up_n]; omega) (set_wf1 (y := .raw (.cells #[.pointer none] 100 (0, 0))) hw1)
  have e0 : (#[.int .i64 4, .int .i64 0, .int .i64 0, .string ⟨#[]⟩, .string ⟨#[]⟩, .bool false] : Array Value) = (fAn (anE 4)).toArray := rfl
  rw [e0]
  refine callF_of (answer_of (L := noL (B := B) p) (t := t) (n := 0) (x := ()) (r := []) (a := anE 4) ((hn.more he.gsub).more he1.gsub) (fun u hu => hu) (fun u hu => ⟨rfl, rfl, rfl⟩) he2 fun v' s' ha hw' => ?_)
  simp -implicitDefEqProofs (disch := first | omega | (simp only [St.set_n, St.up_n, List.length_cons, List.length_nil]; omega)) only [go_sem, Nat.reduceAdd, Nat.reduceMul, Nat.reduceSub, Int.reduceAdd, Int.reduceMul, Int.reduceSub, Int.reduceNeg, Int.reduceToNat]
  exact hK _ _ (Aft.since he (fun c hc => by rw [hk2 c (by omega), hk1 c hc]) (by simp only [St.up_n]; omega) ha) hw'
theorem poll_nil {p : Nat} {u : List Int} {who sub : Int} {nv : Value} (hn : NxN (noL (B := B) p) t 0 (fun _ u => u.length ≤ 100000) (fun a u => (u ++ [a.err], [])) nv h) (he : Env (noL (B := B) p) h G u s)
    (hK : ∀ v' s', Aft (noL (B := B) p) (Rep (noL (B := B) p) t 1 [()]) G u s v' s' → s'.wf B → K v' s') :
    Fn Tryz.prog B 20 #[.pointer none, .int .i64 who, .int .i64 sub, nv] s K := by
  refine Fn.of is20 (by simp) fun hwf => ?_
  simp only [b20, Tryz.f20, Option.getD_some]
  simp -implicitDefEqProofs (disch := first | omega | (simp only [St.set_n, St.up_n, List.length_cons, List.length_nil]; omega)) only [go_sem, Nat.reduceAdd, Nat.reduceMul, Nat.reduceSub, Int.reduceAdd, Int.reduceMul, Int.reduceSub, Int.reduceNeg, Int.reduceToNat]
  refine callF_of (with_nil hn he fun v' s' ha hw' => ?_)
  simp -implicitDefEqProofs (disch := first | omega | (simp only [St.set_n, St.up_n, List.length_cons, List.length_nil]; omega)) only [go_sem, Nat.reduceAdd, Nat.reduceMul, Nat.reduceSub, Int.reduceAdd, Int.reduceMul, Int.reduceSub, Int.reduceNeg, Int.reduceToNat]
  exact hK _ _ ha hw'
theorem drops_nil {p : Nat} {u : List Int} {who sub : Int} {nv : Value} (hn : NxN (noL (B := B) p) t 0 (fun _ u => u.length ≤ 100000) (fun a u => (u ++ [a.err], [])) nv h) (he : Env (noL (B := B) p) h G u s)
    (hK : ∀ v' s', Aft (noL (B := B) p) (Rep (noL (B := B) p) t 1 [()]) G u s v' s' → s'.wf B → K v' s') :
    Fn Tryz.prog B 21 #[.pointer none, .int .i64 who, .int .i64 sub, nv] s K := by
  refine Fn.of is21 (by simp) fun hwf => ?_
  simp only [b21, Tryz.f21, Option.getD_some]
  simp -implicitDefEqProofs (disch := first | omega | (simp only [St.set_n, St.up_n, List.length_cons, List.length_nil]; omega)) only [go_sem, Nat.reduceAdd, Nat.reduceMul, Nat.reduceSub, Int.reduceAdd, Int.reduceMul, Int.reduceSub, Int.reduceNeg, Int.reduceToNat]
  refine callF_of (with_nil hn he fun v' s' ha hw' => ?_)
  simp -implicitDefEqProofs (disch := first | omega | (simp only [St.set_n, St.up_n, List.length_cons, List.length_nil]; omega)) only [go_sem, Nat.reduceAdd, Nat.reduceMul, Nat.reduceSub, Int.reduceAdd, Int.reduceMul, Int.reduceSub, Int.reduceNeg, Int.reduceToNat]
  exact hK _ _ ha hw'
end
end Go.Proofs.YtdbgeahmhfocaaaGreat
