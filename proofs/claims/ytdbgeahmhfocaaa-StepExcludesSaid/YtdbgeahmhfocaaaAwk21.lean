/- The document's example of steps. -/
import Derived.Test.YtdbgeahmhfocaaaFrk
import Derived.Test.YtdbgeahmhfocaaaLRun
namespace Go.Proofs.Ytdbgeahmhfocaaa
set_option linter.unusedSimpArgs false
set_option linter.unusedVariables false
set_option maxRecDepth 100000
open Go Go.RowKit
inductive Act where
  | lk (i : Int)
  | fr (i : Int)
  | ef (k : Nat)
  | ld
  | cs (x : Int)
section
variable {B : World} {σ : St} {K : Value → St → Prop}
abbrev AU := (Nat → Lk) × Int
structure AwD (bg bn g b : Nat) : Prop where
  d1 : bn ≠ b
  d2 : bn ≠ bg
  d3 : bn ≠ g
  d4 : b ≠ bg
  d5 : b ≠ g
  d6 : bg ≠ g
def awH (bg bn g b : Nat) (I : HF) (u : AU) : HF := fun c =>
  if c = bn then some (.raw (.cells #[.int .i64 u.2] 3 (0, 0))) else if c = b then some (.raw (.cells (flat fLk (lksA 1 u.1)).toArray 54 (0, 0)))
  else if c = bg then some (.raw (.cells #[.pointer (some ⟨g, 0, none⟩)] 25 (0, 0))) else if c = g then some (.raw (.cells #[.slice (some ⟨b, 0, none⟩) (1 : Nat) (1 : Nat)] 60 (0, 0))) else I c
def awW (bg bn g b : Nat) (I : HF) (hd : bn ≠ b) : LkW AU (awH bg bn g b I) b 1 where
  get := fun u => u.1
  set := fun u l => (l, u.2)
  hb := fun u => by unfold awH; rw [if_neg (Ne.symm hd), if_pos rfl]
  hs := fun u l c hc => by unfold awH; simp only [if_neg hc]
  gs := fun u l => rfl
def awX (t : Nat) (u : AU) (a : Act) : AU × List Act × Bool :=
  match a with
  | .lk i => (if 0 ≤ i ∧ i < (1 : Nat) then (updL u.1 i.toNat (tryT (u.1 i.toNat) ((t : Int) + 1)), u.2) else u, [], decide (0 ≤ i ∧ i < (1 : Nat)) && tryB (u.1 i.toNat).1 ((t : Int) + 1))
  | .fr i => (if 0 ≤ i ∧ i < (1 : Nat) then (updL u.1 i.toNat (freeT (u.1 i.toNat) ((t : Int) + 1)), u.2) else u, [], true)
  | _ => ((u.1, IntKind.i64.wrap (u.2 + 1)), [], true)
abbrev awL (bg bn g b : Nat) (I : HF) : Lg B := hLg AU Act awX (awH bg bn g b I)
variable {bg bn g b : Nat} {I : HF}
theorem aw_g {u : AU} (hd : AwD bg bn g b) : awH bg bn g b I u bg = some (.raw (.cells #[.pointer (some ⟨g, 0, none⟩)] 25 (0, 0))) := by unfold awH; rw [if_neg (Ne.symm hd.d2), if_neg (Ne.symm hd.d4), if_pos rfl]
theorem aw_gr {u : AU} (hd : AwD bg bn g b) : awH bg bn g b I u g = some (.raw (.cells #[.slice (some ⟨b, 0, none⟩) (1 : Nat) (1 : Nat)] 60 (0, 0))) := by unfold awH; rw [if_neg (Ne.symm hd.d3), if_neg (Ne.symm hd.d5), if_neg (Ne.symm hd.d6), if_pos rfl]
theorem aw_n {u : AU} : awH bg bn g b I u bn = some (.raw (.cells #[.int .i64 u.2] 3 (0, 0))) := by unfold awH; rw [if_pos rfl]
theorem set_wf1 {s : St} {y : HP} (hwf : s.wf B) : ((s.set s.n y).up (s.n + 1)).wf B := by
  have := hwf.1
  refine ⟨by simp only [St.up_n]; omega, fun c x hx => ?_⟩
  simp only [St.up_m, St.set, St.up_n] at hx ⊢
  split at hx
  · omega
  · have := hwf.2 _ _ hx; omega
theorem gro {h : HF} {s s1 : St} {c : Nat} {y : HP} (hc : s.n ≤ c) (hx : s1.m c = some y) : grow h s s1 c = some y := by unfold grow; rw [if_pos hc]; exact hx
theorem aw_free {t : Nat} {h : HF} {bi : Nat} (hd : AwD bg bn g b) (hi : ∀ u, awH bg bn g b I u bi = some (.raw (.cells #[.int .i64 ((t : Int) + 1)] 3 (0, 0)))) :
    NxOk (awL (B := B) bg bn g b I) t 1 (fun u => (u, [.fr 0])) (.func (.func 37) #[] #[.pointer (some ⟨bg, 0, none⟩), .pointer (some ⟨bi, 0, none⟩)]) h := by
  refine .inr ⟨_, _, _, rfl, fun G (u : AU) s he => ?_⟩
  have o1 := (he.at (aw_g hd)).1
  have o2 := (he.at (hi u)).1
  refine Fn.of is37 (by simp) fun hwf => ?_
  have hB := hwf.1
  have hbi := (hwf.2 _ _ o2).2
  simp only [b37, Try.f37, Option.getD_some]
  simp -implicitDefEqProofs (disch := first | omega | (simp only [St.set_n, St.up_n, List.length_cons, List.length_nil]; omega)) only [go_sem, Nat.reduceAdd, Nat.reduceMul, Nat.reduceSub, Int.reduceAdd, Int.reduceMul, Int.reduceSub, Int.reduceNeg, Int.reduceToNat, o1, o2]
  have hk : ∀ c, c < s.n → ((s.set s.n (.raw (.cells #[.int .i64 0] 3 (0, 0)))).up (s.n + 1)).m c = s.m c := fun c hc => by simp -implicitDefEqProofs (disch := first | omega | (simp only [St.set_n, St.up_n, List.length_cons, List.length_nil]; omega)) only [go_sem, Nat.reduceAdd, Nat.reduceMul, Nat.reduceSub, Int.reduceAdd, Int.reduceMul, Int.reduceSub, Int.reduceNeg, Int.reduceToNat]
  have hn1 : s.n ≤ ((s.set s.n (.raw (.cells #[.int .i64 0] 3 (0, 0)))).up (s.n + 1)).n := by simp only [St.up_n]; omega
  have hw1 := set_wf1 (y := .raw (.cells #[.int .i64 0] 3 (0, 0))) hwf
  have he1 := he.grow hk hn1 hw1
  refine callF_of (free_of (L := awL (B := B) bg bn g b I) (t := t) (n := 0) (ψs := fun os u => (u, os.map .fr)) (φ := freeW (awW bg bn g b I hd.d1) ((t : Int) + 1)) (al := fun os => .fr (os.headD 0)) (rl := fun os => os.tail.map .fr) (lv := lkPtr b 1) ⟨_, rfl⟩ (fun i rest u => rfl) (fun i rest u => ⟨rfl, rfl, rfl⟩) [0] _ G u _ _ _
    (fun i _ => at_ok (awW bg bn g b I hd.d1) (fun u => aw_gr hd) i) (fun i _ => free_ok (awW bg bn g b I hd.d1) _ i) (OrdV.lit (gro (Nat.le_refl _) (by simp -implicitDefEqProofs (disch := first | omega | (simp only [St.set_n, St.up_n, List.length_cons, List.length_nil]; omega)) only [go_sem, Nat.reduceAdd, Nat.reduceMul, Nat.reduceSub, Int.reduceAdd, Int.reduceMul, Int.reduceSub, Int.reduceNeg, Int.reduceToNat]; rfl))) (.inl ⟨rfl, fun u => rfl⟩) he1 fun v' s' ha hw' => ?_)
  simp -implicitDefEqProofs (disch := first | omega | (simp only [St.set_n, St.up_n, List.length_cons, List.length_nil]; omega)) only [go_sem, Nat.reduceAdd, Nat.reduceMul, Nat.reduceSub, Int.reduceAdd, Int.reduceMul, Int.reduceSub, Int.reduceNeg, Int.reduceToNat]
  exact Aft.since he hk hn1 ha
theorem aw_inc {t : Nat} {h : HF} (hd : AwD bg bn g b) : FxOk (awL (B := B) bg bn g b I) (fun u => (u.1, IntKind.i64.wrap (u.2 + 1))) (fun _ => h) (.func (.func 36) #[] #[.pointer (some ⟨bn, 0, none⟩)]) h := by
  refine .inr ⟨_, _, _, rfl, fun G (u : AU) s he => ?_⟩
  have o1 := (he.at (aw_n (u := u))).1
  refine Fn.of is36 (by simp) fun hwf => ?_
  simp only [b36, Try.f36, Option.getD_some]
  simp -implicitDefEqProofs (disch := first | omega | (simp only [St.set_n, St.up_n, List.length_cons, List.length_nil]; omega)) only [go_sem, Nat.reduceAdd, Nat.reduceMul, Nat.reduceSub, Int.reduceAdd, Int.reduceMul, Int.reduceSub, Int.reduceNeg, Int.reduceToNat, o1]
  have := Aft.one (v := .nilFunc) (u' := (u.1, IntKind.i64.wrap (u.2 + 1))) he (b := bn) (by rw [aw_n]; simp) (Nat.le_refl s.n) aw_n fun c hc => by unfold awH; simp only [if_neg hc]
  exact this
theorem aw_next {t : Nat} {h : HF} {bi : Nat} (hd : AwD bg bn g b) (hi : ∀ u, awH bg bn g b I u bi = some (.raw (.cells #[.int .i64 ((t : Int) + 1)] 3 (0, 0)))) :
    NxOk (awL (B := B) bg bn g b I) t 2 (fun u => (u, [.ef 0, .fr 0])) (.func (.func 35) #[] #[.pointer (some ⟨bn, 0, none⟩), .pointer (some ⟨bg, 0, none⟩), .pointer (some ⟨bi, 0, none⟩)]) h := by
  refine .inr ⟨_, _, _, rfl, fun G (u : AU) s he => ?_⟩
  refine Fn.of is35 (by simp) fun hwf => ?_
  simp only [b35, Try.f35, Option.getD_some]
  simp -implicitDefEqProofs (disch := first | omega | (simp only [St.set_n, St.up_n, List.length_cons, List.length_nil]; omega)) only [go_sem, Nat.reduceAdd, Nat.reduceMul, Nat.reduceSub, Int.reduceAdd, Int.reduceMul, Int.reduceSub, Int.reduceNeg, Int.reduceToNat]
  refine callF_of (do_of (L := awL (B := B) bg bn g b I) (t := t) (n := 1) (a := .ef 0) (r := [.fr 0]) (ψ := fun _ u => (u, [.fr 0])) (aw_inc (t := t) hd) (fun _ _ h => h) (fun _ => aw_free hd hi) (fun u => ⟨rfl, rfl, rfl⟩) he fun v' s' ha hw => ?_)
  simp -implicitDefEqProofs (disch := first | omega | (simp only [St.set_n, St.up_n, List.length_cons, List.length_nil]; omega)) only [go_sem, Nat.reduceAdd, Nat.reduceMul, Nat.reduceSub, Int.reduceAdd, Int.reduceMul, Int.reduceSub, Int.reduceNeg, Int.reduceToNat]
  exact ha
def awT : List Act := [.lk 0, .ef 0, .fr 0]
def aw0 (j : Nat) : AU × (Nat → List Act) := ((fun _ => (0, 0, 0), 0), fun t => if t < j then awT else [])
theorem awr : (Sys.loopA (Y := lgSys (awL (B := B) bg bn g b I) 2) 70000 (Sys.picksA ⟨aw0 2, [], 0⟩ [])).1.mv.length = 6 ∧
    (Sys.loopA (Y := lgSys (awL (B := B) bg bn g b I) 2) 70000 (Sys.picksA ⟨aw0 2, [], 0⟩ [])).1.x.1.2 = 2 ∧
    (Sys.loopA (Y := lgSys (awL (B := B) bg bn g b I) 2) 70000 (Sys.picksA ⟨aw0 2, [], 0⟩ [])).2 = 0 := ⟨by kernel_rfl, by kernel_rfl, by kernel_rfl⟩
theorem LgI.at {U A : Type} {ex : Nat → U → A → U × List A × Bool} {H : U → HF} {k : Nat} {G : Nat → Prop} {x : U × (Nat → List A)} {vs : List Value} {s : St} (hI : LgI (hLg (B := B) U A ex H) k G x vs s) {c : Nat} {y : HP} (hy : H x.1 c = some y) : s.m c = some y := by
  obtain ⟨hs, h1, h2, h3, h4, h5⟩ := hI.hs
  exact (h4 c y hy).1
theorem LgI.stepV {L : Lg B} {k : Nat} {G : Nat → Prop} {x : L.U × (Nat → List L.A)} {vs : List Value} {s : St} (hI : LgI L k G x vs s) {v : Value} (hv : v ∈ vs) : StV v := by
  obtain ⟨hs, h1, h2, h3, h4, h5⟩ := hI.hs
  obtain ⟨t, ht⟩ := List.getElem?_of_mem hv
  obtain ⟨m, hm⟩ := h5 t v ht
  exact hm.st
theorem slR_nil : SlR B 1 RInt [] (.slice none 0 0) := ⟨none, 0, rfl, Nat.le_refl _, Nat.zero_le _, fun _ => rfl, fun i x h => by simp at h⟩
theorem StV.one {v : Value} (hv : StV v) : vc v = #[v] ∧ v.oneCell' = true := by rcases hv with rfl | ⟨_, _, _, rfl⟩ <;> exact ⟨rfl, rfl⟩
end
end Go.Proofs.Ytdbgeahmhfocaaa
