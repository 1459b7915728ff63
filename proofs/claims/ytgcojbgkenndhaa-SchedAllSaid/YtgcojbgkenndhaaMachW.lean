/- Threads that take turns: the document's example. -/
import Derived.Test.YtgcojbgkenndhaaMachG
import Derived.Test.YtgcojbgkenndhaaEpoch
namespace Go.Proofs.Ytgcojbgkenndhaa
set_option linter.unusedSimpArgs false
set_option linter.unusedVariables false
set_option maxRecDepth 100000
open Go Go.RowKit
section
variable {P : Program} {B : World} {σ τ : St}
theorem fill_ones {z : Value} (hz : z.cells = #[z]) (n : Nat) : ∀ (vs : List Value) (i : Nat) (c : Array Value), (∀ v ∈ vs, v.cells = #[v]) → i + vs.length ≤ c.size →
    Instr.fill (fun i => some (i * 1, 1)) c (vs.zipIdx i |>.map fun p => (p.2, p.1)) = some (wrl c i vs)
  | [], i, c, _, _ => rfl
  | v :: vs, i, c, hv, hl => by
    have h1 := hv v (by simp)
    simp only [List.length_cons] at hl
    simp only [List.zipIdx_cons, List.map_cons]
    show fl _ _ _ = _
    rw [fill_cons, fillK_some]
    have hvc : vc v = #[v] := h1
    rw [if_neg (by rw [hvc]; simp; omega), hvc]
    simp only [Nat.mul_one]
    have := fill_ones hz n vs (i + 1) (c.setIfInBounds i v) (fun u hu => hv u (by simp [hu])) (by simp; omega)
    simp only [Nat.mul_one] at this
    exact this
/-- A literal slice of values of one cell each. -/
theorem bslK_ones {t el : TypeId} {b n : Nat} {z : Value} {vs : List Value} {parts : List (Nat × Value)} {d : Option Tmp} {K : Fr → St → Prop} {e : Fr} (hse : se P t = some (el, 1, b)) (hz : zr P el = some z) (hz1 : z.cells = #[z]) (hv : ∀ v ∈ vs, v.cells = #[v]) (hn : vs.length = n) (hp : parts = (vs.zipIdx 0 |>.map fun p => (p.2, p.1))) (h24 : n ≤ 1000)
    (h : K (e.put d (.slice (some ⟨σ.n, 0, none⟩) n n)) ((σ.set σ.n (.raw (.cells vs.toArray el (0, 0)))).up (σ.n + 1))) : bslK P t n parts d K e σ := by
  unfold bslK bsl bindK
  have hsz : (zcells z.cells (n * 1)).size = n := by simp [zcells]
  refine ⟨_, hse, z, hz, by omega, vs.toArray, ?_, h⟩
  rw [hp, fill_ones hz1 n vs 0 _ hv (by omega), wrl_all _ _ (by omega)]
end
section
variable {B : World} {σ τ : St} {K : Value → St → Prop}
theorem ChV.co {n0 : Nat} {fs : List Value} {v : Value} {s : St} {G : Nat → Prop} (h : ChV n0 fs v s) (hG : ∀ c, G c → c < n0) : ∃ p, CO G fs v p s ∧ ∀ x b, p = some (x, b) → n0 ≤ x ∧ n0 ≤ b := by
  rcases h with h | ⟨h0, x1, b, cap, sp, h1, h2, h3, h4, h5, h6, h7, h8⟩
  · exact ⟨none, .inl h, fun x b h => by cases h⟩
  · exact ⟨some (x1, b), .inr ⟨h0, x1, b, cap, sp, rfl, fun h => by have := hG _ h; omega, fun h => by have := hG _ h; omega, h4, h5, h6, h7⟩, fun x b' h => by cases h; exact ⟨h1, h2⟩⟩
theorem ChV.st {n0 : Nat} {fs : List Value} {v : Value} {s : St} (h : ChV n0 fs v s) : StV v := by
  rcases h with ⟨_, h7⟩ | ⟨_, _, _, _, _, _, _, _, h7, _⟩
  · exact .inl h7
  · exact .inr ⟨_, _, _, h7⟩
theorem ChV.keep {n0 : Nat} {fs : List Value} {v : Value} {s s' : St} (h : ChV n0 fs v s) (hk : ∀ c y, n0 ≤ c → s.m c = some y → s'.m c = some y) : ChV n0 fs v s' := by
  rcases h with h | ⟨h0, x1, b, cap, sp, h1, h2, h3, h4, h5, h6, h7, h8⟩
  · exact .inl h
  · exact .inr ⟨h0, x1, b, cap, sp, h1, h2, h3, h4, hk _ _ h1 h5, h6, hk _ _ h2 h7, h8⟩
theorem ChV.low {n0 n1 : Nat} {fs : List Value} {v : Value} {s : St} (h : ChV n0 fs v s) (hn : n1 ≤ n0) : ChV n1 fs v s := by
  rcases h with h | ⟨h0, x1, b, cap, sp, h1, h2, h3, h4, h5, h6, h7, h8⟩
  · exact .inl h
  · exact .inr ⟨h0, x1, b, cap, sp, by omega, by omega, h3, h4, h5, h6, h7, h8⟩
theorem StV.one {v : Value} (hv : StV v) : v.cells = #[v] := by rcases hv with rfl | ⟨_, _, _, rfl⟩ <;> rfl
def f57v : Value := .func (.func 57) #[] #[]
theorem f57_is (hK : K (.bool true) σ) : Fn Try.prog B 57 #[] σ K := by
  refine Fn.of is57 (by simp) fun hwf => ?_
  simp only [b57, Try.f57, Option.getD_some]
  simp -implicitDefEqProofs (disch := first | omega | (simp only [St.set_n, St.up_n, List.length_cons, List.length_nil]; omega)) only [go_sem, Nat.reduceAdd, Nat.reduceMul, Nat.reduceSub, Int.reduceAdd, Int.reduceMul, Int.reduceSub, Int.reduceNeg, Int.reduceToNat]
  exact hK
def csA : Cs B where
  W := Unit
  n := 2
  fns := fun _ => [f57v, f57v]
  act := fun _ _ _ => ((), true)
  okx := fun _ _ => True
  okstep := fun _ _ _ => trivial
  WI := fun _ _ _ => True
  small := fun _ => by simp
  isf := fun _ u hu => by
    simp at hu; subst hu
    exact ⟨rfl, .inr ⟨_, _, _, rfl⟩⟩
  fresh := fun _ _ _ => trivial
  weak := fun _ _ => trivial
  stable := fun _ _ _ => trivial
  call := by
    intro G w s t i g c1 c2 _ _ _ _ hg
    have hm := List.mem_of_getElem? hg
    simp [f57v] at hm
    obtain ⟨rfl, rfl, rfl⟩ := hm
    exact f57_is ⟨rfl, trivial, Nat.le_refl _, fun c y _ hx => hx⟩
theorem runA_awake : (Sys.loopA (Y := chainSys (csA (B := B))) 70000 (Sys.picksA ⟨((), fun _ => 0), [], 0⟩ [])).1.mv = [0, 1, 0, 1] ∧
    (Sys.loopA (Y := chainSys (csA (B := B))) 70000 (Sys.picksA ⟨((), fun _ => 0), [], 0⟩ [])).1.ca = 4 ∧ (Sys.loopA (Y := chainSys (csA (B := B))) 70000 (Sys.picksA ⟨((), fun _ => 0), [], 0⟩ [])).2 = 0 := ⟨rfl, rfl, rfl⟩
theorem slR_nil : SlR B 1 RInt [] (.slice none 0 0) := ⟨none, 0, rfl, Nat.le_refl _, Nat.zero_le _, fun _ => rfl, fun i x h => by simp at h⟩
set_option maxHeartbeats 4000000 in
theorem awake06 (hK : ∀ k, σ.n ≤ k → K (.bool true) (σ.up k)) : Fn Try.prog B 42 #[] σ K := by
  refine Fn.of' is42 (by simp) fun hwf => ?_
  simp only [b42, Try.f42, Option.getD_some]
  simp -implicitDefEqProofs (disch := first | omega | (simp only [St.set_n, St.up_n, List.length_cons, List.length_nil]; omega)) only [go_sem, Nat.reduceAdd, Nat.reduceMul, Nat.reduceSub, Int.reduceAdd, Int.reduceMul, Int.reduceSub, Int.reduceNeg, Int.reduceToNat]
  refine bslK_ones (vs := [f57v, f57v]) se115 zr23 rfl (by simp [f57v, Value.cells]) rfl rfl (by omega) ?_
  simp -implicitDefEqProofs (disch := first | omega | (simp only [St.set_n, St.up_n, List.length_cons, List.length_nil]; omega)) only [go_sem, Nat.reduceAdd, Nat.reduceMul, Nat.reduceSub, Int.reduceAdd, Int.reduceMul, Int.reduceSub, Int.reduceNeg, Int.reduceToNat]
  have hvf : ∀ u ∈ [f57v, f57v], isFn u = true ∧ StV u := fun u hu => by simp at hu; subst hu; exact ⟨rfl, .inr ⟨_, _, _, rfl⟩⟩
  have hfcl : ∀ (s : St) (b : Nat) (vs : List Value) (n : Nat) (ty : TypeId), vs.length = n → s.m b = some (.raw (.cells vs.toArray ty (0, 0))) → fc B s 1 (.slice (some ⟨b, 0, none⟩) n n) = some (n, vs) := fun s b vs n ty hn hm => fc_block hm (by omega)
  refine callF_wf (chain_of (fs := [f57v, f57v]) (by simp) hvf ⟨⟨_, _, rfl⟩, hfcl _ _ _ _ 23 rfl (by simp -implicitDefEqProofs (disch := first | omega | (simp only [St.set_n, St.up_n, List.length_cons, List.length_nil]; omega)) only [go_sem, Nat.reduceAdd, Nat.reduceMul, Nat.reduceSub, Int.reduceAdd, Int.reduceMul, Int.reduceSub, Int.reduceNeg, Int.reduceToNat])⟩ (fun s hs => hfcl _ _ _ _ 23 rfl (by rw [hs _ (by simp only [St.up_n]; omega)]; simp -implicitDefEqProofs (disch := first | omega | (simp only [St.set_n, St.up_n, List.length_cons, List.length_nil]; omega)) only [go_sem, Nat.reduceAdd, Nat.reduceMul, Nat.reduceSub, Int.reduceAdd, Int.reduceMul, Int.reduceSub, Int.reduceNeg, Int.reduceToNat])) fun v1 s1 hC1 hold1 hn1 hws1 => ?_)
  simp only [St.up_n] at hC1 hold1 hn1
  have hold1' : ∀ c, c < σ.n → s1.m c = σ.m c := fun c hc => by rw [hold1 c (by omega)]; simp -implicitDefEqProofs (disch := first | omega | (simp only [St.set_n, St.up_n, List.length_cons, List.length_nil]; omega)) only [go_sem, Nat.reduceAdd, Nat.reduceMul, Nat.reduceSub, Int.reduceAdd, Int.reduceMul, Int.reduceSub, Int.reduceNeg, Int.reduceToNat]
  simp -implicitDefEqProofs (disch := first | omega | (simp only [St.set_n, St.up_n, List.length_cons, List.length_nil]; omega)) only [go_sem, Nat.reduceAdd, Nat.reduceMul, Nat.reduceSub, Int.reduceAdd, Int.reduceMul, Int.reduceSub, Int.reduceNeg, Int.reduceToNat]
  refine bslK_ones (vs := [f57v, f57v]) se115 zr23 rfl (by simp [f57v, Value.cells]) rfl rfl (by omega) ?_
  simp -implicitDefEqProofs (disch := first | omega | (simp only [St.set_n, St.up_n, List.length_cons, List.length_nil]; omega)) only [go_sem, Nat.reduceAdd, Nat.reduceMul, Nat.reduceSub, Int.reduceAdd, Int.reduceMul, Int.reduceSub, Int.reduceNeg, Int.reduceToNat]
  refine callF_wf (chain_of (fs := [f57v, f57v]) (by simp) hvf ⟨⟨_, _, rfl⟩, hfcl _ _ _ _ 23 rfl (by simp -implicitDefEqProofs (disch := first | omega | (simp only [St.set_n, St.up_n, List.length_cons, List.length_nil]; omega)) only [go_sem, Nat.reduceAdd, Nat.reduceMul, Nat.reduceSub, Int.reduceAdd, Int.reduceMul, Int.reduceSub, Int.reduceNeg, Int.reduceToNat])⟩ (fun s hs => hfcl _ _ _ _ 23 rfl (by rw [hs _ (by simp only [St.up_n]; omega)]; simp -implicitDefEqProofs (disch := first | omega | (simp only [St.set_n, St.up_n, List.length_cons, List.length_nil]; omega)) only [go_sem, Nat.reduceAdd, Nat.reduceMul, Nat.reduceSub, Int.reduceAdd, Int.reduceMul, Int.reduceSub, Int.reduceNeg, Int.reduceToNat])) fun v2 s2 hC2 hold2 hn2 hws2 => ?_)
  simp only [St.up_n] at hC2 hold2 hn2
  have hold2' : ∀ c, c < s1.n → s2.m c = s1.m c := fun c hc => by rw [hold2 c (by omega)]; simp -implicitDefEqProofs (disch := first | omega | (simp only [St.set_n, St.up_n, List.length_cons, List.length_nil]; omega)) only [go_sem, Nat.reduceAdd, Nat.reduceMul, Nat.reduceSub, Int.reduceAdd, Int.reduceMul, Int.reduceSub, Int.reduceNeg, Int.reduceToNat]
  simp -implicitDefEqProofs (disch := first | omega | (simp only [St.set_n, St.up_n, List.length_cons, List.length_nil]; omega)) only [go_sem, Nat.reduceAdd, Nat.reduceMul, Nat.reduceSub, Int.reduceAdd, Int.reduceMul, Int.reduceSub, Int.reduceNeg, Int.reduceToNat]
  have hv1 := hC1.st
  have hv2 := hC2.st
  refine bslK_ones (vs := [v1, v2]) se86 zr94 rfl (by simp [hv1.one, hv2.one]) rfl rfl (by omega) ?_
  simp -implicitDefEqProofs (disch := first | omega | (simp only [St.set_n, St.up_n, List.length_cons, List.length_nil]; omega)) only [go_sem, Nat.reduceAdd, Nat.reduceMul, Nat.reduceSub, Int.reduceAdd, Int.reduceMul, Int.reduceSub, Int.reduceNeg, Int.reduceToNat]
  have hkeep3 : ∀ c y, s2.m c = some y → ((s2.set s2.n (.raw (.cells #[v1, v2] 94 (0, 0)))).up (s2.n + 1)).m c = some y := fun c y hx => by
    have := (hws2.2 _ _ hx).2
    simp -implicitDefEqProofs (disch := first | omega | (simp only [St.set_n, St.up_n, List.length_cons, List.length_nil]; omega)) only [go_sem, Nat.reduceAdd, Nat.reduceMul, Nat.reduceSub, Int.reduceAdd, Int.reduceMul, Int.reduceSub, Int.reduceNeg, Int.reduceToNat, hx]
  have hw3 : ((s2.set s2.n (.raw (.cells #[v1, v2] 94 (0, 0)))).up (s2.n + 1)).wf B := by
    have := hws2.1
    refine ⟨by simp only [St.up_n]; omega, fun d x hx => ?_⟩
    simp only [St.up_m, St.set, St.up_n] at hx ⊢
    split at hx
    · omega
    · have := hws2.2 _ _ hx; omega
  have hI : (chainSys (csA (B := B))).Inv (fun c => c < σ.n) ((), fun _ => 0) [v1, v2] ((s2.set s2.n (.raw (.cells #[v1, v2] 94 (0, 0)))).up (s2.n + 1)) := by
    have hC1' : ChV σ.n [f57v, f57v] v1 ((s2.set s2.n (.raw (.cells #[v1, v2] 94 (0, 0)))).up (s2.n + 1)) := (hC1.keep fun c y _ hx => hkeep3 c y (by rw [hold2' c (hws1.2 _ _ hx).2]; exact hx)).low (by omega)
    have hC2' : ChV σ.n [f57v, f57v] v2 ((s2.set s2.n (.raw (.cells #[v1, v2] 94 (0, 0)))).up (s2.n + 1)) := (hC2.keep fun c y _ hx => hkeep3 c y hx).low (by omega)
    obtain ⟨p1, h1, _⟩ := hC1'.co (G := fun c => c < σ.n) fun c hc => hc
    obtain ⟨p2, h2, _⟩ := hC2'.co (G := fun c => c < σ.n) fun c hc => hc
    refine ⟨rfl, ⟨fun c hc => by simp only [St.up_n]; omega⟩, trivial, [p1, p2], rfl, trivial, fun t v p hv hp => ?_⟩
    match t, hv, hp with
    | 0, hv, hp => simp at hv hp; subst hv hp; exact h1
    | 1, hv, hp => simp at hv hp; subst hv hp; exact h2
    | t + 2, hv, hp => simp at hv
  obtain ⟨r1, r2, r3⟩ := runA_awake (B := B)
  have hx3 : ((s2.set s2.n (.raw (.cells #[v1, v2] 94 (0, 0)))).up (s2.n + 1)).m s2.n = some (.raw (.cells [v1, v2].toArray 94 (0, 0))) := by simp -implicitDefEqProofs (disch := first | omega | (simp only [St.set_n, St.up_n, List.length_cons, List.length_nil]; omega)) only [go_sem, Nat.reduceAdd, Nat.reduceMul, Nat.reduceSub, Int.reduceAdd, Int.reduceMul, Int.reduceSub, Int.reduceNeg, Int.reduceToNat]
  have hn3 : s2.n < ((s2.set s2.n (.raw (.cells #[v1, v2] 94 (0, 0)))).up (s2.n + 1)).n := by simp only [St.up_n]; omega
  have hk3 : ∀ c, c < σ.n → ((s2.set s2.n (.raw (.cells #[v1, v2] 94 (0, 0)))).up (s2.n + 1)).m c = σ.m c := fun c hc => by
    have h1 := hold2' c (by omega)
    have h2 := hold1' c hc
    rw [h2] at h1
    simp -implicitDefEqProofs (disch := first | omega | (simp only [St.set_n, St.up_n, List.length_cons, List.length_nil]; omega)) only [go_sem, Nat.reduceAdd, Nat.reduceMul, Nat.reduceSub, Int.reduceAdd, Int.reduceMul, Int.reduceSub, Int.reduceNeg, Int.reduceToNat, h1]
  have hns : σ.n ≤ s2.n := by omega
  generalize (s2.set s2.n (.raw (.cells #[v1, v2] 94 (0, 0)))).up (s2.n + 1) = s3 at hI hx3 hn3 hk3 hw3 ⊢
  refine callF_wf (m_run hI (show (2 : Nat) ≤ 1000 by omega) (by simp) ⟨⟨_, _, rfl⟩, hfcl _ _ _ _ 94 rfl hx3⟩ (fun s hs => hfcl _ _ _ _ 94 rfl (by rw [hs _ hn3]; exact hx3)) slR_nil rfl fun mv vs' s4 om hI4 hn4 hk4 hws4 => ?_)
  rw [r1] at om
  rw [r2, r3]
  obtain ⟨Am, cm, rfl, _⟩ := om.is
  have e4 : ((4 : Nat) : Int) = 4 := rfl
  rw [e4]
  have hkF : ∀ (c : Nat) (y : HP) (z : HP) (k : Nat), s4.m c = some y → ((s4.set s4.n z).up k).m c = some y := fun c y z k hx => by
    have := (hws4.2 _ _ hx).2
    simp -implicitDefEqProofs (disch := first | omega | (simp only [St.set_n, St.up_n, List.length_cons, List.length_nil]; omega)) only [go_sem, Nat.reduceAdd, Nat.reduceMul, Nat.reduceSub, Int.reduceAdd, Int.reduceMul, Int.reduceSub, Int.reduceNeg, Int.reduceToNat, hx]
  simp -implicitDefEqProofs (disch := first | omega | (simp only [St.set_n, St.up_n, List.length_cons, List.length_nil]; omega)) only [go_sem, Nat.reduceAdd, Nat.reduceMul, Nat.reduceSub, Int.reduceAdd, Int.reduceMul, Int.reduceSub, Int.reduceNeg, Int.reduceToNat]
  refine bslK_ones (vs := [.int .i64 0, .int .i64 1, .int .i64 0, .int .i64 1]) se28 zr3 rfl (by simp [Value.cells]) rfl rfl (by omega) ?_
  simp -implicitDefEqProofs (disch := first | omega | (simp only [St.set_n, St.up_n, List.length_cons, List.length_nil]; omega)) only [go_sem, Nat.reduceAdd, Nat.reduceMul, Nat.reduceSub, Int.reduceAdd, Int.reduceMul, Int.reduceSub, Int.reduceNeg, Int.reduceToNat]
  refine callF_of (same_ints (l := [0, 1, 0, 1]) (l' := [0, 1, 0, 1]) (by simp) (om.keepR fun b o _ ho => ?_) (Own.of' (sp := []) (by simp -implicitDefEqProofs (disch := first | omega | (simp only [St.set_n, St.up_n, List.length_cons, List.length_nil]; omega)) only [go_sem, Nat.reduceAdd, Nat.reduceMul, Nat.reduceSub, Int.reduceAdd, Int.reduceMul, Int.reduceSub, Int.reduceNeg, Int.reduceToNat]; rfl) rfl (Nat.le_refl _) rfl) ?_)
  · have := (hws4.2 _ _ ho).2
    simp -implicitDefEqProofs (disch := first | omega | (simp only [St.set_n, St.up_n, List.length_cons, List.length_nil]; omega)) only [go_sem, Nat.reduceAdd, Nat.reduceMul, Nat.reduceSub, Int.reduceAdd, Int.reduceMul, Int.reduceSub, Int.reduceNeg, Int.reduceToNat, ho]
  · simp only [decide_true]
    simp -implicitDefEqProofs (disch := first | omega | (simp only [St.set_n, St.up_n, List.length_cons, List.length_nil]; omega)) only [go_sem, Nat.reduceAdd, Nat.reduceMul, Nat.reduceSub, Int.reduceAdd, Int.reduceMul, Int.reduceSub, Int.reduceNeg, Int.reduceToNat]
    refine ⟨_, To.same (fun d y h2 h3 => ?_) hwf, hK _ (by simp only [St.up_n, St.set_n]; omega)⟩
    have h5 := hk4 d y h2 ((hk3 d h2).trans h3)
    simp -implicitDefEqProofs (disch := first | omega | (simp only [St.set_n, St.up_n, List.length_cons, List.length_nil]; omega)) only [go_sem, Nat.reduceAdd, Nat.reduceMul, Nat.reduceSub, Int.reduceAdd, Int.reduceMul, Int.reduceSub, Int.reduceNeg, Int.reduceToNat, h5]
end
end Go.Proofs.Ytgcojbgkenndhaa
