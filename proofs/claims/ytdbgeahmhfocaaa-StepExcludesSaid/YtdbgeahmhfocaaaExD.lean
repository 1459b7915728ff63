/- 'StepExcludes': what a round makes. -/
import Derived.Test.YtdbgeahmhfocaaaExC
namespace Go.Proofs.Ytdbgeahmhfocaaa
set_option linter.unusedSimpArgs false
set_option linter.unusedVariables false
set_option maxRecDepth 100000
open Go Go.RowKit
section
variable {B : World} {K : Value → St → Prop} {q : XB} {n : Nat} {ods : Nat → List Int} {th : List (List Int)} {tv : Value} {cb : Nat → Nat} {H : XU → HF} {t bo bi bc br : Nat} {vo : Value}
def fuX (os : List Int) (r : Nat) : Nat := (2 * os.length + 4) * r
def restX (os : List Int) (r : Nat) : List Act := os.map .fr ++ progX os r
def RoundOk (B : World) (q : XB) (n : Nat) (ods : Nat → List Int) (H : XU → HF) (t bo bi bc br r : Nat) : Prop := ∀ (h : HF) (G : Nat → Prop) (u : XU) (s : St) (K : Value → St → Prop), Env (xL (B := B) n ods H) h G u s →
  (∀ v' s', Aft (xL (B := B) n ods H) (Rep (xL (B := B) n ods H) t (fuX (ods t) r) (progX (ods t) r)) G u s v' s' → s'.wf B → K v' s') →
  Fn Try.prog B 9 #[.int .i64 r, .pointer (some ⟨q.bg, 0, none⟩), .pointer (some ⟨bo, 0, none⟩), .pointer (some ⟨bi, 0, none⟩), .pointer (some ⟨q.bth, 0, none⟩), .pointer (some ⟨q.bbad, 0, none⟩), .pointer (some ⟨q.bwi, 0, none⟩), .pointer (some ⟨bc, 0, none⟩), .pointer (some ⟨q.bdn, 0, none⟩), .pointer (some ⟨br, 0, none⟩)] s K
theorem x_23 (ht : XT B q n ods cb H t bo bi bc br vo) {r bl : Nat} (hr6 : r ≤ 100) (hR : RoundOk B q n ods H t bo bi bc br r) {h : HF} (hl : h bl = some (.raw (.cells #[.int .i64 ((r : Int) + 1)] 3 (0, 0)))) :
    NxOk (xL (B := B) n ods H) t (fuX (ods t) r) (fun u => (u, progX (ods t) r)) (.func (.func 23) #[] #[.pointer (some ⟨br, 0, none⟩), .pointer (some ⟨bl, 0, none⟩)]) h := by
  refine .inr ⟨_, _, _, rfl, fun G (u : XU) s he => ?_⟩
  have o1 := (he.at (ht.r u)).1
  simp only [xCaps] at o1
  have o2 := he.sub _ _ hl
  have e1 : (r : Int) + 1 - 1 = r := by omega
  refine Fn.of is23 (by simp) fun hwf => ?_
  simp only [b23, Try.f23, Option.getD_some]
  simp -implicitDefEqProofs (disch := first | omega | (simp only [St.set_n, St.up_n, List.length_cons, List.length_nil]; omega)) only [go_sem, Nat.reduceAdd, Nat.reduceMul, Nat.reduceSub, Int.reduceAdd, Int.reduceMul, Int.reduceSub, Int.reduceNeg, Int.reduceToNat, o1, o2, e1]
  refine callF_of (hR h G u s _ he fun v' s' ha hw => ?_)
  simp -implicitDefEqProofs (disch := first | omega | (simp only [St.set_n, St.up_n, List.length_cons, List.length_nil]; omega)) only [go_sem, Nat.reduceAdd, Nat.reduceMul, Nat.reduceSub, Int.reduceAdd, Int.reduceMul, Int.reduceSub, Int.reduceNeg, Int.reduceToNat]
  exact ha
theorem x_21 (hw : XW B q n ods th tv cb H) (ht : XT B q n ods cb H t bo bi bc br vo) {r bl : Nat} (hr6 : r ≤ 100) (hR : RoundOk B q n ods H t bo bi bc br r) {h : HF} (hl : h bl = some (.raw (.cells #[.int .i64 ((r : Int) + 1)] 3 (0, 0)))) :
    NxOk (xL (B := B) n ods H) t (fuX (ods t) r + (ods t).length) (fun u => (u, restX (ods t) r)) (.func (.func 21) #[] #[.pointer (some ⟨q.bg, 0, none⟩), .pointer (some ⟨bo, 0, none⟩), .pointer (some ⟨bi, 0, none⟩), .pointer (some ⟨br, 0, none⟩), .pointer (some ⟨bl, 0, none⟩)]) h := by
  refine .inr ⟨_, _, _, rfl, fun G (u : XU) s he => ?_⟩
  have o1 := (he.at (hw.gb u)).1
  have o2 := (he.at (ht.o u)).1
  have o3 := (he.at (ht.i u)).1
  have htn := ht.tn
  have hn8 := hw.n8
  refine Fn.of is21 (by simp) fun hwf => ?_
  simp only [b21, Try.f21, Option.getD_some]
  simp -implicitDefEqProofs (disch := first | omega | (simp only [St.set_n, St.up_n, List.length_cons, List.length_nil]; omega)) only [go_sem, Nat.reduceAdd, Nat.reduceMul, Nat.reduceSub, Int.reduceAdd, Int.reduceMul, Int.reduceSub, Int.reduceNeg, Int.reduceToNat, o1, o2, o3]
  refine callF_of (free_of (L := xL (B := B) n ods H) (t := t) (n := fuX (ods t) r) (ψs := fun os u => (u, os.map .fr ++ progX (ods t) r)) (φ := freeW (xLk hw) ((t : Int) + 1)) (al := fun os => .fr (os.headD 0)) (rl := fun os => os.tail.map .fr ++ progX (ods t) r) (lv := lkPtr q.b 8) ⟨_, rfl⟩ (fun i rest u => rfl) (fun i rest u => ⟨rfl, rfl, rfl⟩) (ods t) h G u s _ _
    (fun i _ => at_ok (xLk hw) hw.gr i) (fun i _ => free_ok (xLk hw) _ i) (ht.ov h) (x_23 ht hr6 hR hl) he fun v' s' ha hw' => ?_)
  simp -implicitDefEqProofs (disch := first | omega | (simp only [St.set_n, St.up_n, List.length_cons, List.length_nil]; omega)) only [go_sem, Nat.reduceAdd, Nat.reduceMul, Nat.reduceSub, Int.reduceAdd, Int.reduceMul, Int.reduceSub, Int.reduceNeg, Int.reduceToNat]
  exact ha
theorem x_19 (hw : XW B q n ods th tv cb H) (ht : XT B q n ods cb H t bo bi bc br vo) {r bl : Nat} (hr6 : r ≤ 100) (hR : RoundOk B q n ods H t bo bi bc br r) {h : HF} (hl : h bl = some (.raw (.cells #[.int .i64 ((r : Int) + 1)] 3 (0, 0)))) :
    NxA (xL (B := B) n ods H) t (fuX (ods t) r + (ods t).length + 1) Value.bool (fun ok u => (u, .ef (if ok then 1 else 2) :: restX (ods t) r)) (.func (.func 19) #[] #[.pointer (some ⟨q.bbad, 0, none⟩), .pointer (some ⟨q.bwi, 0, none⟩), .pointer (some ⟨bi, 0, none⟩), .pointer (some ⟨q.bdn, 0, none⟩), .pointer (some ⟨q.bg, 0, none⟩), .pointer (some ⟨bo, 0, none⟩), .pointer (some ⟨br, 0, none⟩), .pointer (some ⟨bl, 0, none⟩)]) h := by
  refine .inr ⟨_, _, _, rfl, fun ok G (u : XU) s he => ?_⟩
  refine Fn.of is19 (by simp) fun hwf => ?_
  simp only [b19, Try.f19, Option.getD_some]
  simp -implicitDefEqProofs (disch := first | omega | (simp only [St.set_n, St.up_n, List.length_cons, List.length_nil]; omega)) only [go_sem, Nat.reduceAdd, Nat.reduceMul, Nat.reduceSub, Int.reduceAdd, Int.reduceMul, Int.reduceSub, Int.reduceNeg, Int.reduceToNat]
  have hk : ∀ c, c < s.n → ((s.set s.n (.raw (.cells #[.bool ok] 4 (0, 0)))).up (s.n + 1)).m c = s.m c := fun c hc => by simp -implicitDefEqProofs (disch := first | omega | (simp only [St.set_n, St.up_n, List.length_cons, List.length_nil]; omega)) only [go_sem, Nat.reduceAdd, Nat.reduceMul, Nat.reduceSub, Int.reduceAdd, Int.reduceMul, Int.reduceSub, Int.reduceNeg, Int.reduceToNat]
  have hn1 : s.n ≤ ((s.set s.n (.raw (.cells #[.bool ok] 4 (0, 0)))).up (s.n + 1)).n := by simp only [St.up_n]; omega
  have hw1 := set_wf1 (y := .raw (.cells #[.bool ok] 4 (0, 0))) hwf
  have he1 := he.grow hk hn1 hw1
  have hl1 := he.gsub (s' := (s.set s.n (.raw (.cells #[.bool ok] 4 (0, 0)))).up (s.n + 1)) _ _ hl
  have hb1 : grow h s ((s.set s.n (.raw (.cells #[.bool ok] 4 (0, 0)))).up (s.n + 1)) s.n = some (.raw (.cells #[.bool ok] 4 (0, 0))) := gro (Nat.le_refl _) (by simp -implicitDefEqProofs (disch := first | omega | (simp only [St.set_n, St.up_n, List.length_cons, List.length_nil]; omega)) only [go_sem, Nat.reduceAdd, Nat.reduceMul, Nat.reduceSub, Int.reduceAdd, Int.reduceMul, Int.reduceSub, Int.reduceNeg, Int.reduceToNat])
  refine callF_of (do_of (L := xL (B := B) n ods H) (t := t) (n := fuX (ods t) r + (ods t).length) (a := .ef (if ok then 1 else 2)) (r := restX (ods t) r) (ψ := fun _ u => (u, restX (ods t) r)) (x_exit hw ht hb1) (fun _ _ h => h) (fun _ => x_21 hw ht hr6 hR hl1) (fun u => by cases ok <;> exact ⟨rfl, rfl, rfl⟩) he1 fun v' s' ha hw' => ?_)
  simp -implicitDefEqProofs (disch := first | omega | (simp only [St.set_n, St.up_n, List.length_cons, List.length_nil]; omega)) only [go_sem, Nat.reduceAdd, Nat.reduceMul, Nat.reduceSub, Int.reduceAdd, Int.reduceMul, Int.reduceSub, Int.reduceNeg, Int.reduceToNat]
  exact Aft.since he hk hn1 ha
theorem x_17 (hw : XW B q n ods th tv cb H) (ht : XT B q n ods cb H t bo bi bc br vo) {r bl : Nat} (hr6 : r ≤ 100) (hR : RoundOk B q n ods H t bo bi bc br r) {h : HF} (hl : h bl = some (.raw (.cells #[.int .i64 ((r : Int) + 1)] 3 (0, 0)))) :
    NxA (xL (B := B) n ods H) t (fuX (ods t) r + (ods t).length + 1 + 1) (Value.int .i64) (fun x u => (u, .cs x :: restX (ods t) r)) (.func (.func 17) #[] #[.pointer (some ⟨bc, 0, none⟩), .pointer (some ⟨q.bbad, 0, none⟩), .pointer (some ⟨q.bwi, 0, none⟩), .pointer (some ⟨bi, 0, none⟩), .pointer (some ⟨q.bdn, 0, none⟩), .pointer (some ⟨q.bg, 0, none⟩), .pointer (some ⟨bo, 0, none⟩), .pointer (some ⟨br, 0, none⟩), .pointer (some ⟨bl, 0, none⟩)]) h := by
  refine .inr ⟨_, _, _, rfl, fun x G (u : XU) s he => ?_⟩
  have o1 := (he.at (ht.c u)).1
  refine Fn.of is17 (by simp) fun hwf => ?_
  simp only [b17, Try.f17, Option.getD_some]
  simp -implicitDefEqProofs (disch := first | omega | (simp only [St.set_n, St.up_n, List.length_cons, List.length_nil]; omega)) only [go_sem, Nat.reduceAdd, Nat.reduceMul, Nat.reduceSub, Int.reduceAdd, Int.reduceMul, Int.reduceSub, Int.reduceNeg, Int.reduceToNat, o1]
  refine callF_of (cas_of (L := xL (B := B) n ods H) (t := t) (n := fuX (ods t) r + (ods t).length + 1) (a := .cs x) (r := restX (ods t) r) (ok := fun u => decide ((u.cs t).1 = x)) (φ := casW (xCl hw ht) x (IntKind.i64.wrap (x + 1))) ⟨_, rfl⟩ (cas_ok (xCl hw ht) x _) (x_19 hw ht hr6 hR hl) (fun u => ⟨rfl, rfl, by simp only [decide_eq_true_eq]; rfl⟩) he fun v' s' ha hw' => ?_)
  simp -implicitDefEqProofs (disch := first | omega | (simp only [St.set_n, St.up_n, List.length_cons, List.length_nil]; omega)) only [go_sem, Nat.reduceAdd, Nat.reduceMul, Nat.reduceSub, Int.reduceAdd, Int.reduceMul, Int.reduceSub, Int.reduceNeg, Int.reduceToNat]
  exact ha
theorem x_15 (hw : XW B q n ods th tv cb H) (ht : XT B q n ods cb H t bo bi bc br vo) {r bl : Nat} (hr6 : r ≤ 100) (hR : RoundOk B q n ods H t bo bi bc br r) {h : HF} (hl : h bl = some (.raw (.cells #[.int .i64 ((r : Int) + 1)] 3 (0, 0)))) :
    NxOk (xL (B := B) n ods H) t (fuX (ods t) r + (ods t).length + 1 + 1 + 1) (fun u => (u, .ld :: restX (ods t) r)) (.func (.func 15) #[] #[.pointer (some ⟨bc, 0, none⟩), .pointer (some ⟨q.bbad, 0, none⟩), .pointer (some ⟨q.bwi, 0, none⟩), .pointer (some ⟨bi, 0, none⟩), .pointer (some ⟨q.bdn, 0, none⟩), .pointer (some ⟨q.bg, 0, none⟩), .pointer (some ⟨bo, 0, none⟩), .pointer (some ⟨br, 0, none⟩), .pointer (some ⟨bl, 0, none⟩)]) h := by
  refine .inr ⟨_, _, _, rfl, fun G (u : XU) s he => ?_⟩
  have o1 := (he.at (ht.c u)).1
  refine Fn.of is15 (by simp) fun hwf => ?_
  simp only [b15, Try.f15, Option.getD_some]
  simp -implicitDefEqProofs (disch := first | omega | (simp only [St.set_n, St.up_n, List.length_cons, List.length_nil]; omega)) only [go_sem, Nat.reduceAdd, Nat.reduceMul, Nat.reduceSub, Int.reduceAdd, Int.reduceMul, Int.reduceSub, Int.reduceNeg, Int.reduceToNat, o1]
  refine callF_of (load_of (L := xL (B := B) n ods H) (t := t) (n := fuX (ods t) r + (ods t).length + 1 + 1) (a := .ld) (r := restX (ods t) r) (val := fun u => (u.cs t).1) (φ := loadW (xCl hw ht)) ⟨_, rfl⟩ (load_ok (xCl hw ht)) (x_17 hw ht hr6 hR hl) (fun u => ⟨rfl, rfl, rfl⟩) he fun v' s' ha hw' => ?_)
  simp -implicitDefEqProofs (disch := first | omega | (simp only [St.set_n, St.up_n, List.length_cons, List.length_nil]; omega)) only [go_sem, Nat.reduceAdd, Nat.reduceMul, Nat.reduceSub, Int.reduceAdd, Int.reduceMul, Int.reduceSub, Int.reduceNeg, Int.reduceToNat]
  exact ha
theorem x_11 (hw : XW B q n ods th tv cb H) (ht : XT B q n ods cb H t bo bi bc br vo) {r bl : Nat} (hr6 : r ≤ 100) (hR : RoundOk B q n ods H t bo bi bc br r) {h : HF} (hl : h bl = some (.raw (.cells #[.int .i64 ((r : Int) + 1)] 3 (0, 0)))) :
    NxOk (xL (B := B) n ods H) t (fuX (ods t) r + (ods t).length + 1 + 1 + 1 + 1) (fun u => (u, .ef 0 :: .ld :: restX (ods t) r)) (.func (.func 11) #[] #[.pointer (some ⟨q.bth, 0, none⟩), .pointer (some ⟨q.bbad, 0, none⟩), .pointer (some ⟨q.bwi, 0, none⟩), .pointer (some ⟨bo, 0, none⟩), .pointer (some ⟨bi, 0, none⟩), .pointer (some ⟨bc, 0, none⟩), .pointer (some ⟨q.bdn, 0, none⟩), .pointer (some ⟨q.bg, 0, none⟩), .pointer (some ⟨br, 0, none⟩), .pointer (some ⟨bl, 0, none⟩)]) h := by
  refine .inr ⟨_, _, _, rfl, fun G (u : XU) s he => ?_⟩
  refine Fn.of is11 (by simp) fun hwf => ?_
  simp only [b11, Try.f11, Option.getD_some]
  simp -implicitDefEqProofs (disch := first | omega | (simp only [St.set_n, St.up_n, List.length_cons, List.length_nil]; omega)) only [go_sem, Nat.reduceAdd, Nat.reduceMul, Nat.reduceSub, Int.reduceAdd, Int.reduceMul, Int.reduceSub, Int.reduceNeg, Int.reduceToNat]
  refine callF_of (do_of (L := xL (B := B) n ods H) (t := t) (n := fuX (ods t) r + (ods t).length + 1 + 1 + 1) (a := .ef 0) (r := .ld :: restX (ods t) r) (ψ := fun _ u => (u, .ld :: restX (ods t) r)) (x_enter hw ht) (fun _ _ h => h) (fun _ => x_15 hw ht hr6 hR hl) (fun u => ⟨rfl, rfl, rfl⟩) he fun v' s' ha hw' => ?_)
  simp -implicitDefEqProofs (disch := first | omega | (simp only [St.set_n, St.up_n, List.length_cons, List.length_nil]; omega)) only [go_sem, Nat.reduceAdd, Nat.reduceMul, Nat.reduceSub, Int.reduceAdd, Int.reduceMul, Int.reduceSub, Int.reduceNeg, Int.reduceToNat]
  exact ha
theorem round_ok (hw : XW B q n ods th tv cb H) (ht : XT B q n ods cb H t bo bi bc br vo) : ∀ r : Nat, r ≤ 100 → RoundOk B q n ods H t bo bi bc br r
  | 0, _ => by
    intro h G u s K he hK
    refine Fn.of is9 (by simp) fun hwf => ?_
    have hk : ∀ c, c < s.n → ((s.set s.n (.raw (.cells #[.int .i64 ((0 : Nat) : Int)] 3 (0, 0)))).up (s.n + 1)).m c = s.m c := fun c hc => by simp -implicitDefEqProofs (disch := first | omega | (simp only [St.set_n, St.up_n, List.length_cons, List.length_nil]; omega)) only [go_sem, Nat.reduceAdd, Nat.reduceMul, Nat.reduceSub, Int.reduceAdd, Int.reduceMul, Int.reduceSub, Int.reduceNeg, Int.reduceToNat]
    have hn1 : s.n ≤ ((s.set s.n (.raw (.cells #[.int .i64 ((0 : Nat) : Int)] 3 (0, 0)))).up (s.n + 1)).n := by simp only [St.up_n]; omega
    have hw1 := set_wf1 (y := .raw (.cells #[.int .i64 ((0 : Nat) : Int)] 3 (0, 0))) hwf
    have he1 := he.grow hk hn1 hw1
    have e0 : ((0 : Nat) : Int) = 0 := rfl
    simp only [b9, Try.f9, Option.getD_some]
    simp -implicitDefEqProofs (disch := first | omega | (simp only [St.set_n, St.up_n, List.length_cons, List.length_nil]; omega)) only [go_sem, Nat.reduceAdd, Nat.reduceMul, Nat.reduceSub, Int.reduceAdd, Int.reduceMul, Int.reduceSub, Int.reduceNeg, Int.reduceToNat, e0]
    exact hK _ _ (Aft.since he hk hn1 (he1.done (rep_nil _ _ _))) hw1
  | r + 1, hr => by
    have ih := round_ok hw ht r (by omega)
    intro h G u s K he hK
    have o1 := (he.at (hw.gb u)).1
    have o2 := (he.at (ht.o u)).1
    have o3 := (he.at (ht.i u)).1
    have htn := ht.tn
    have hn8 := hw.n8
    refine Fn.of is9 (by simp) fun hwf => ?_
    have o1n := (hwf.2 _ _ o1).2
    have o2n := (hwf.2 _ _ o2).2
    have o3n := (hwf.2 _ _ o3).2
    have e1 : ((r + 1 : Nat) : Int) = (r : Int) + 1 := by omega
    have e2 : ¬ (r : Int) + 1 = 0 := by omega
    rw [e1]
    have hk : ∀ c, c < s.n → ((s.set s.n (.raw (.cells #[.int .i64 ((r : Int) + 1)] 3 (0, 0)))).up (s.n + 1)).m c = s.m c := fun c hc => by simp -implicitDefEqProofs (disch := first | omega | (simp only [St.set_n, St.up_n, List.length_cons, List.length_nil]; omega)) only [go_sem, Nat.reduceAdd, Nat.reduceMul, Nat.reduceSub, Int.reduceAdd, Int.reduceMul, Int.reduceSub, Int.reduceNeg, Int.reduceToNat]
    have hn1 : s.n ≤ ((s.set s.n (.raw (.cells #[.int .i64 ((r : Int) + 1)] 3 (0, 0)))).up (s.n + 1)).n := by simp only [St.up_n]; omega
    have hw1 := set_wf1 (y := .raw (.cells #[.int .i64 ((r : Int) + 1)] 3 (0, 0))) hwf
    have he1 := he.grow hk hn1 hw1
    have hb1 : grow h s ((s.set s.n (.raw (.cells #[.int .i64 ((r : Int) + 1)] 3 (0, 0)))).up (s.n + 1)) s.n = some (.raw (.cells #[.int .i64 ((r : Int) + 1)] 3 (0, 0))) := gro (Nat.le_refl _) (by simp -implicitDefEqProofs (disch := first | omega | (simp only [St.set_n, St.up_n, List.length_cons, List.length_nil]; omega)) only [go_sem, Nat.reduceAdd, Nat.reduceMul, Nat.reduceSub, Int.reduceAdd, Int.reduceMul, Int.reduceSub, Int.reduceNeg, Int.reduceToNat])
    simp only [b9, Try.f9, Option.getD_some]
    simp -implicitDefEqProofs (disch := first | omega | (simp only [St.set_n, St.up_n, List.length_cons, List.length_nil]; omega)) only [go_sem, Nat.reduceAdd, Nat.reduceMul, Nat.reduceSub, Int.reduceAdd, Int.reduceMul, Int.reduceSub, Int.reduceNeg, Int.reduceToNat, e2, o1, o2, o3]
    refine callF_of (locks_of (L := xL (B := B) n ods H) (t := t) (n := fuX (ods t) r + (ods t).length + 1 + 1 + 1 + 1) (al := .lk) (T := .ef 0 :: .ld :: restX (ods t) r) (ok := tryO (xLk hw) ((t : Int) + 1)) (φ := tryW (xLk hw) ((t : Int) + 1)) (lv := lkPtr q.b 8) ⟨_, rfl⟩ (lkPtr_pt _ _) (ods t) _ G u _ _ _
      (fun i _ => at_ok (xLk hw) hw.gr i) (fun i _ => try_ok (xLk hw) _ i) (fun i _ u => ⟨rfl, rfl, fun _ => rfl⟩) (ht.ov _) (x_11 hw ht (by omega) ih hb1) he1 fun v' s' ha hw' => ?_)
    simp -implicitDefEqProofs (disch := first | omega | (simp only [St.set_n, St.up_n, List.length_cons, List.length_nil]; omega)) only [go_sem, Nat.reduceAdd, Nat.reduceMul, Nat.reduceSub, Int.reduceAdd, Int.reduceMul, Int.reduceSub, Int.reduceNeg, Int.reduceToNat]
    refine hK _ _ (Aft.since he hk hn1 (ha.mono fun h' hr => ?_)) hw'
    have e3 : fuX (ods t) (r + 1) = fuX (ods t) r + (ods t).length + 1 + 1 + 1 + 1 + (ods t).length := by unfold fuX; rw [Nat.mul_succ]; omega
    rw [e3]
    exact hr
end
end Go.Proofs.Ytdbgeahmhfocaaa
