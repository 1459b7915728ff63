/- Threads that poll, whole: contracts, by walks. -/
import Derived.Test.YtdbgeahmhfocaaaGreatThr
namespace Go.Proofs.YtdbgeahmhfocaaaGreat
set_option linter.unusedSimpArgs false
set_option linter.unusedVariables false
set_option maxRecDepth 100000
open Go Go.RowKit
section
variable {B : World} {q : YB} {nr rn : Nat} {rr rb : Nat → Nat} {H : CU → HF} {K : Value → St → Prop} {G : Nat → Prop} {h : HF} {s : St} {t n : Nat}
theorem poll_any (hw : YW q nr rn rr rb H) {u : CU} {sub : Int} {j : Nat} {T : List CA} {nv : Value} (ht : t ≤ 1000) (hn : NxN (cL (B := B) nr rn H) t n (fun _ u => EndOk u.log j) (fun a u => (u.fin j a, T)) nv h) (he : Env (cL (B := B) nr rn H) h G u s)
    (hK : ∀ v' s', Aft (cL (B := B) nr rn H) (Rep (cL (B := B) nr rn H) t (n + 1 + 1 + 1) ((if 1 ≤ sub ∧ sub ≤ nr then [.lk (3 + sub), .po (sub - 1).toNat j false] else [.an j]) ++ T)) G u s v' s' → s'.wf B → K v' s') :
    Fn Tryz.prog B 20 #[.pointer (some ⟨q.c, 0, none⟩), .int .i64 t, .int .i64 sub, nv] s K := by
  by_cases hs : 1 ≤ sub ∧ sub ≤ nr
  · rw [if_pos hs] at hK
    obtain ⟨i, rfl⟩ : ∃ i : Nat, sub = (i : Int) + 1 := ⟨(sub - 1).toNat, by omega⟩
    have e1 : ((i : Int) + 1 - 1).toNat = i := by omega
    have e2 : (3 : Int) + ((i : Int) + 1) = 4 + i := by omega
    rw [e1, e2] at hK
    exact poll_of hw ht (by omega) hn he hK
  · rw [if_neg hs] at hK
    refine Fn.of is20 (by simp) fun hwf => ?_
    simp only [b20, Tryz.f20, Option.getD_some]
    simp -implicitDefEqProofs (disch := first | omega | (simp only [St.set_n, St.up_n, List.length_cons, List.length_nil]; omega)) only [go_sem, Nat.reduceAdd, Nat.reduceMul, Nat.reduceSub, Int.reduceAdd, Int.reduceMul, Int.reduceSub, Int.reduceNeg, Int.reduceToNat]
    refine callF_of (with_none hw hs hn he fun v' s' ha hw' => ?_)
    simp -implicitDefEqProofs (disch := first | omega | (simp only [St.set_n, St.up_n, List.length_cons, List.length_nil]; omega)) only [go_sem, Nat.reduceAdd, Nat.reduceMul, Nat.reduceSub, Int.reduceAdd, Int.reduceMul, Int.reduceSub, Int.reduceNeg, Int.reduceToNat]
    exact hK _ _ (ha.mono fun h hr => hr.up (by omega)) hw'
theorem drops_any (hw : YW q nr rn rr rb H) {u : CU} {sub : Int} {j : Nat} {T : List CA} {nv : Value} (ht : t ≤ 1000) (hn : NxN (cL (B := B) nr rn H) t n (fun _ u => EndOk u.log j) (fun a u => (u.fin j a, T)) nv h) (he : Env (cL (B := B) nr rn H) h G u s)
    (hK : ∀ v' s', Aft (cL (B := B) nr rn H) (Rep (cL (B := B) nr rn H) t (n + 1 + 1 + 1) ((if 1 ≤ sub ∧ sub ≤ nr then [.lk (3 + sub), .po (sub - 1).toNat j true] else [.an j]) ++ T)) G u s v' s' → s'.wf B → K v' s') :
    Fn Tryz.prog B 21 #[.pointer (some ⟨q.c, 0, none⟩), .int .i64 t, .int .i64 sub, nv] s K := by
  by_cases hs : 1 ≤ sub ∧ sub ≤ nr
  · rw [if_pos hs] at hK
    obtain ⟨i, rfl⟩ : ∃ i : Nat, sub = (i : Int) + 1 := ⟨(sub - 1).toNat, by omega⟩
    have e1 : ((i : Int) + 1 - 1).toNat = i := by omega
    have e2 : (3 : Int) + ((i : Int) + 1) = 4 + i := by omega
    rw [e1, e2] at hK
    exact drops_of hw ht (by omega) hn he hK
  · rw [if_neg hs] at hK
    refine Fn.of is21 (by simp) fun hwf => ?_
    simp only [b21, Tryz.f21, Option.getD_some]
    simp -implicitDefEqProofs (disch := first | omega | (simp only [St.set_n, St.up_n, List.length_cons, List.length_nil]; omega)) only [go_sem, Nat.reduceAdd, Nat.reduceMul, Nat.reduceSub, Int.reduceAdd, Int.reduceMul, Int.reduceSub, Int.reduceNeg, Int.reduceToNat]
    refine callF_of (with_none hw hs hn he fun v' s' ha hw' => ?_)
    simp -implicitDefEqProofs (disch := first | omega | (simp only [St.set_n, St.up_n, List.length_cons, List.length_nil]; omega)) only [go_sem, Nat.reduceAdd, Nat.reduceMul, Nat.reduceSub, Int.reduceAdd, Int.reduceMul, Int.reduceSub, Int.reduceNeg, Int.reduceToNat]
    exact hK _ _ (ha.mono fun h hr => hr.up (by omega)) hw'
theorem go_ok (hw : YW q nr rn rr rb H) (ht : t ≤ 1000) {j : Nat} {op : COp} {ops : List COp} {A : Option Addr} {cap : Nat} {w : TB} (ih : ThrOk B q nr rn H t ops) (hh : TH q t (.slice A (ops.length + 1) cap) w h) (ho : OpsV (cL (B := B) nr rn H) h (.slice A (ops.length + 1) cap) (op :: ops)) (hi : h w.bi = some (.raw (.cells #[.int .i64 ((j : Int) + 1)] 3 (0, 0))))
    (hx : h w.bn = some (.raw (.cells #[tnV w] 65 (0, 0)))) {Q : CU → Prop} :
    NxOk (cL (B := B) nr rn H) Q t (4 * ops.length + 3) (fun u => (u, aft nr op j ++ ops.map .bg)) (.func (.func 38) #[] #[.pointer (some ⟨w.bo, 0, none⟩), .pointer (some ⟨w.bc, 0, none⟩), .pointer (some ⟨w.bm, 0, none⟩), .pointer (some ⟨w.bn, 0, none⟩)]) h := by
  refine .inr ⟨_, _, _, rfl, fun G (u : CU) s he _ => ?_⟩
  have hnx := next_ok hw ih hh ho hi
  obtain ⟨b, o, cs, ty, rfl, hb, c0, c1, c2, c3, c4⟩ := ho.head
  have mb := hb _ _ _ he
  have o1 := he.sub _ _ hh.c
  have o2 := he.sub _ _ hh.m
  have o3 := he.sub _ _ hh.o
  have o4 := he.sub _ _ hx
  have e1 : (0 : Int) < (ops.length : Int) + 1 := by omega
  refine Fn.of is38 (by simp) fun hwf => ?_
  simp only [b38, Tryz.f38, Option.getD_some]
  by_cases hk : op.kind = 5
  · have hk' : (op.kind == 5) = true := by rw [hk]; rfl
    rw [hk] at c0
    simp -implicitDefEqProofs (disch := first | omega | (simp only [St.set_n, St.up_n, List.length_cons, List.length_nil]; omega)) only [go_sem, Nat.reduceAdd, Nat.reduceMul, Nat.reduceSub, Int.reduceAdd, Int.reduceMul, Int.reduceSub, Int.reduceNeg, Int.reduceToNat, o1, o2, o3, o4, mb, c0, c1, e1]
    refine effD_cut (by kernel_rfl) ?_
    intro jj hjj
    simp -implicitDefEqProofs (disch := first | omega | (simp only [St.set_n, St.up_n, List.length_cons, List.length_nil]; omega)) only [go_sem, Nat.reduceAdd, Nat.reduceMul, Nat.reduceSub, Int.reduceAdd, Int.reduceMul, Int.reduceSub, Int.reduceNeg, Int.reduceToNat]
    refine callF_of (drops_any hw ht hnx (he.up hjj) fun v' s' ha hw' => ?_)
    simp -implicitDefEqProofs (disch := first | omega | (simp only [St.set_n, St.up_n, List.length_cons, List.length_nil]; omega)) only [go_sem, Nat.reduceAdd, Nat.reduceMul, Nat.reduceSub, Int.reduceAdd, Int.reduceMul, Int.reduceSub, Int.reduceNeg, Int.reduceToNat]
    have hn2 : s.n ≤ (s.up jj).n := by simp only [St.up_n]; omega
    have hfin := Aft.since (s1 := s.up jj) he (fun c _ => rfl) hn2 ha
    unfold aft
    rw [hk']
    first | exact hfin | (intro j3 hj3; exact hfin.up hj3)
  · have hk' : (op.kind == 5) = false := by simpa using hk
    simp -implicitDefEqProofs (disch := first | omega | (simp only [St.set_n, St.up_n, List.length_cons, List.length_nil]; omega)) only [go_sem, Nat.reduceAdd, Nat.reduceMul, Nat.reduceSub, Int.reduceAdd, Int.reduceMul, Int.reduceSub, Int.reduceNeg, Int.reduceToNat, o1, o2, o3, o4, mb, c0, c1, e1, hk]
    refine effD_cut (by kernel_rfl) ?_
    intro jj hjj
    simp -implicitDefEqProofs (disch := first | omega | (simp only [St.set_n, St.up_n, List.length_cons, List.length_nil]; omega)) only [go_sem, Nat.reduceAdd, Nat.reduceMul, Nat.reduceSub, Int.reduceAdd, Int.reduceMul, Int.reduceSub, Int.reduceNeg, Int.reduceToNat]
    refine callF_of (poll_any hw ht hnx (he.up hjj) fun v' s' ha hw' => ?_)
    simp -implicitDefEqProofs (disch := first | omega | (simp only [St.set_n, St.up_n, List.length_cons, List.length_nil]; omega)) only [go_sem, Nat.reduceAdd, Nat.reduceMul, Nat.reduceSub, Int.reduceAdd, Int.reduceMul, Int.reduceSub, Int.reduceNeg, Int.reduceToNat]
    have hn2 : s.n ≤ (s.up jj).n := by simp only [St.up_n]; omega
    have hfin := Aft.since (s1 := s.up jj) he (fun c _ => rfl) hn2 ha
    unfold aft
    rw [hk']
    first | exact hfin | (intro j3 hj3; exact hfin.up hj3)
theorem thread_nil : ThrOk B q nr rn H t [] := by
  intro h G u s ov K ho he hK
  obtain ⟨A, cap, rfl, hc, _⟩ := ho.is
  refine Fn.of is12 (by simp) fun hwf => ?_
  have hB := hwf.1
  simp only [b12, Tryz.f12, Option.getD_some]
  simp -implicitDefEqProofs (disch := first | omega | (simp only [St.set_n, St.up_n, List.length_cons, List.length_nil]; omega)) only [go_sem, Nat.reduceAdd, Nat.reduceMul, Nat.reduceSub, Int.reduceAdd, Int.reduceMul, Int.reduceSub, Int.reduceNeg, Int.reduceToNat]
  have key : ∀ s1, s1 = (((((s.set s.n (.raw (.cells #[.pointer (some ⟨q.c, 0, none⟩)] 27 (0, 0)))).set (s.n + 1) (.raw (.cells #[.int .i64 t] 3 (0, 0)))).set (s.n + 1 + 1) (.raw (.cells #[.slice A 0 cap] 46 (0, 0)))).set (s.n + 1 + 1 + 1) (.raw (.cells #[.pointer (some ⟨q.lp, 0, none⟩)] 43 (0, 0)))).up (s.n + 1 + 1 + 1 + 1)) → (∀ c, c < s.n → s1.m c = s.m c) ∧ s1.wf B ∧ s.n ≤ s1.n := by
    rintro s1 rfl
    exact ⟨fun c hc => by simp -implicitDefEqProofs (disch := first | omega | (simp only [St.set_n, St.up_n, List.length_cons, List.length_nil]; omega)) only [go_sem, Nat.reduceAdd, Nat.reduceMul, Nat.reduceSub, Int.reduceAdd, Int.reduceMul, Int.reduceSub, Int.reduceNeg, Int.reduceToNat], set_wf1 (y := .raw (.cells #[.pointer (some ⟨q.lp, 0, none⟩)] 43 (0, 0))) (set_wf1 (y := .raw (.cells #[.slice A 0 cap] 46 (0, 0))) (set_wf1 (y := .raw (.cells #[.int .i64 t] 3 (0, 0))) (set_wf1 (y := .raw (.cells #[.pointer (some ⟨q.c, 0, none⟩)] 27 (0, 0))) hwf))), by simp only [St.up_n]; omega⟩
  obtain ⟨hk, hw1, hn1⟩ := key _ rfl
  exact hK _ _ (Aft.since he hk hn1 ((he.grow hk hn1 hw1).done (rep_nil _ _ _))) hw1
def tb (n : Nat) : TB := ⟨n, n + 1, n + 1 + 1, n + 1 + 1 + 1, n + 1 + 1 + 1 + 1, n + 1 + 1 + 1 + 1 + 1⟩
theorem thread_cons (hw : YW q nr rn rr rb H) (ht : t ≤ 1000) {op : COp} {ops : List COp} (ih : ThrOk B q nr rn H t ops) : ThrOk B q nr rn H t (op :: ops) := by
  intro h G u s ov K ho he hK
  obtain ⟨A, cap, rfl, hc, _⟩ := ho.is
  simp only [List.length_cons] at ho hc
  refine Fn.of is12 (by simp) fun hwf => ?_
  have hB := hwf.1
  have e1 : ¬ ((ops.length : Int) + 1 = 0) := by omega
  simp only [b12, Tryz.f12, Option.getD_some]
  simp -implicitDefEqProofs (disch := first | omega | (simp only [St.set_n, St.up_n, List.length_cons, List.length_nil]; omega)) only [go_sem, Nat.reduceAdd, Nat.reduceMul, Nat.reduceSub, Int.reduceAdd, Int.reduceMul, Int.reduceSub, Int.reduceNeg, Int.reduceToNat, e1, List.length_cons]
  have key : ∀ s1, s1 = (((((((s.set s.n (.raw (.cells #[.pointer (some ⟨q.c, 0, none⟩)] 27 (0, 0)))).set (s.n + 1) (.raw (.cells #[.int .i64 t] 3 (0, 0)))).set (s.n + 1 + 1) (.raw (.cells #[.slice A (ops.length + 1) cap] 46 (0, 0)))).set (s.n + 1 + 1 + 1) (.raw (.cells #[.pointer (some ⟨q.lp, 0, none⟩)] 43 (0, 0)))).set (s.n + 1 + 1 + 1 + 1) (.raw (.cells #[.int .i64 0] 3 (0, 0)))).set (s.n + 1 + 1 + 1 + 1 + 1) (.raw (.cells #[.func (.func 33) #[] #[.pointer (some ⟨s.n + 1 + 1 + 1, 0, none⟩), .pointer (some ⟨s.n + 1 + 1 + 1 + 1, 0, none⟩), .pointer (some ⟨s.n, 0, none⟩), .pointer (some ⟨s.n + 1, 0, none⟩), .pointer (some ⟨s.n + 1 + 1, 0, none⟩)]] 65 (0, 0)))).up (s.n + 1 + 1 + 1 + 1 + 1 + 1)) → (∀ c, c < s.n → s1.m c = s.m c) ∧ s1.wf B ∧ s.n ≤ s1.n ∧ s1.n = s.n + 1 + 1 + 1 + 1 + 1 + 1 ∧ s1.m s.n = some (.raw (.cells #[.pointer (some ⟨q.c, 0, none⟩)] 27 (0, 0))) ∧ s1.m (s.n + 1) = some (.raw (.cells #[.int .i64 t] 3 (0, 0))) ∧ s1.m (s.n + 1 + 1) = some (.raw (.cells #[.slice A (ops.length + 1) cap] 46 (0, 0))) ∧
      s1.m (s.n + 1 + 1 + 1) = some (.raw (.cells #[.pointer (some ⟨q.lp, 0, none⟩)] 43 (0, 0))) ∧ s1.m (s.n + 1 + 1 + 1 + 1) = some (.raw (.cells #[.int .i64 0] 3 (0, 0))) ∧ s1.m (s.n + 1 + 1 + 1 + 1 + 1) = some (.raw (.cells #[tnV (tb s.n)] 65 (0, 0))) := by
    rintro s1 rfl
    exact ⟨fun c hc => by simp -implicitDefEqProofs (disch := first | omega | (simp only [St.set_n, St.up_n, List.length_cons, List.length_nil]; omega)) only [go_sem, Nat.reduceAdd, Nat.reduceMul, Nat.reduceSub, Int.reduceAdd, Int.reduceMul, Int.reduceSub, Int.reduceNeg, Int.reduceToNat], set_wf1 (y := .raw (.cells #[.func (.func 33) #[] #[.pointer (some ⟨s.n + 1 + 1 + 1, 0, none⟩), .pointer (some ⟨s.n + 1 + 1 + 1 + 1, 0, none⟩), .pointer (some ⟨s.n, 0, none⟩), .pointer (some ⟨s.n + 1, 0, none⟩), .pointer (some ⟨s.n + 1 + 1, 0, none⟩)]] 65 (0, 0))) (set_wf1 (y := .raw (.cells #[.int .i64 0] 3 (0, 0))) (set_wf1 (y := .raw (.cells #[.pointer (some ⟨q.lp, 0, none⟩)] 43 (0, 0))) (set_wf1 (y := .raw (.cells #[.slice A (ops.length + 1) cap] 46 (0, 0))) (set_wf1 (y := .raw (.cells #[.int .i64 t] 3 (0, 0))) (set_wf1 (y := .raw (.cells #[.pointer (some ⟨q.c, 0, none⟩)] 27 (0, 0))) hwf))))), by simp only [St.up_n]; omega, rfl, by simp -implicitDefEqProofs (disch := first | omega | (simp only [St.set_n, St.up_n, List.length_cons, List.length_nil]; omega)) only [go_sem, Nat.reduceAdd, Nat.reduceMul, Nat.reduceSub, Int.reduceAdd, Int.reduceMul, Int.reduceSub, Int.reduceNeg, Int.reduceToNat], by simp -implicitDefEqProofs (disch := first | omega | (simp only [St.set_n, St.up_n, List.length_cons, List.length_nil]; omega)) only [go_sem, Nat.reduceAdd, Nat.reduceMul, Nat.reduceSub, Int.reduceAdd, Int.reduceMul, Int.reduceSub, Int.reduceNeg, Int.reduceToNat], by simp -implicitDefEqProofs (disch := first | omega | (simp only [St.set_n, St.up_n, List.length_cons, List.length_nil]; omega)) only [go_sem, Nat.reduceAdd, Nat.reduceMul, Nat.reduceSub, Int.reduceAdd, Int.reduceMul, Int.reduceSub, Int.reduceNeg, Int.reduceToNat], by simp -implicitDefEqProofs (disch := first | omega | (simp only [St.set_n, St.up_n, List.length_cons, List.length_nil]; omega)) only [go_sem, Nat.reduceAdd, Nat.reduceMul, Nat.reduceSub, Int.reduceAdd, Int.reduceMul, Int.reduceSub, Int.reduceNeg, Int.reduceToNat], by simp -implicitDefEqProofs (disch := first | omega | (simp only [St.set_n, St.up_n, List.length_cons, List.length_nil]; omega)) only [go_sem, Nat.reduceAdd, Nat.reduceMul, Nat.reduceSub, Int.reduceAdd, Int.reduceMul, Int.reduceSub, Int.reduceNeg, Int.reduceToNat], by simp -implicitDefEqProofs (disch := first | omega | (simp only [St.set_n, St.up_n, List.length_cons, List.length_nil]; omega)) only [go_sem, Nat.reduceAdd, Nat.reduceMul, Nat.reduceSub, Int.reduceAdd, Int.reduceMul, Int.reduceSub, Int.reduceNeg, Int.reduceToNat]; rfl⟩
  obtain ⟨hk, hw1, hn1, hn6, p0, p1, p2, p3, p4, p5⟩ := key _ rfl
  generalize (((((((s.set s.n (.raw (.cells #[.pointer (some ⟨q.c, 0, none⟩)] 27 (0, 0)))).set (s.n + 1) (.raw (.cells #[.int .i64 t] 3 (0, 0)))).set (s.n + 1 + 1) (.raw (.cells #[.slice A (ops.length + 1) cap] 46 (0, 0)))).set (s.n + 1 + 1 + 1) (.raw (.cells #[.pointer (some ⟨q.lp, 0, none⟩)] 43 (0, 0)))).set (s.n + 1 + 1 + 1 + 1) (.raw (.cells #[.int .i64 0] 3 (0, 0)))).set (s.n + 1 + 1 + 1 + 1 + 1) (.raw (.cells #[.func (.func 33) #[] #[.pointer (some ⟨s.n + 1 + 1 + 1, 0, none⟩), .pointer (some ⟨s.n + 1 + 1 + 1 + 1, 0, none⟩), .pointer (some ⟨s.n, 0, none⟩), .pointer (some ⟨s.n + 1, 0, none⟩), .pointer (some ⟨s.n + 1 + 1, 0, none⟩)]] 65 (0, 0)))).up (s.n + 1 + 1 + 1 + 1 + 1 + 1)) = s1 at hk hw1 hn1 hn6 p0 p1 p2 p3 p4 p5 ⊢
  have he1 := he.grow hk hn1 hw1
  have hh : TH q t (.slice A (ops.length + 1) cap) (tb s.n) (grow h s s1) := ⟨gro (Nat.le_refl _) p0, gro (by simp only [tb]; omega) p1, gro (by simp only [tb]; omega) p2, gro (by simp only [tb]; omega) p3⟩
  have hi := gro (h := h) (s := s) (by omega) p4
  have ho1 := ho.more (h2 := grow h s s1) he.gsub
  have hx := gro (h := h) (s := s) (by omega) p5
  have nb : ∀ {c : Nat}, c ≠ s.n + 1 + 1 + 1 + 1 → ∀ y, putH (grow h s s1) (s.n + 1 + 1 + 1 + 1) y c = grow h s s1 c := fun hc y => putH_ne hc
  refine callF_of (do_of (L := cL (B := B) nr rn H) (t := t) (n := 4 * ops.length + 3) (a := .bg op) (r := ops.map .bg) (φ := fun u => { u with log := u.log.begin t op }) (η := fun u => putH (grow h s s1) (tb s.n).bi (.raw (.cells #[.int .i64 ((u.log.l.length : Int) + 1)] 3 (0, 0)))) (ψ := fun u u1 => (u1, aft nr op u.log.l.length ++ ops.map .bg))
    (beg_ok hw hh ho1 hi) (fun u c hc => ?_) ⟨rfl, rfl⟩ (fun u hu => ?_) (fun u hu => ⟨rfl, rfl, rfl⟩) he1 fun v' s' ha hw' => ?_)
  · rw [putH_ne (fun e => by rw [e] at hc; simp only [tb] at hc; rw [hi] at hc; cases hc)]; exact hc
  · refine go_ok hw ht (j := u.log.l.length) (A := A) (cap := cap) (w := tb s.n) ih ⟨?_, ?_, ?_, ?_⟩ ?_ putH_eq ?_
    · exact (putH_ne (by simp only [tb]; omega)).trans hh.c
    · exact (putH_ne (by simp only [tb]; omega)).trans hh.m
    · exact (putH_ne (by simp only [tb]; omega)).trans hh.o
    · exact (putH_ne (by simp only [tb]; omega)).trans hh.l
    · refine ho.more fun c y hc => ?_
      have := he.hlt hc
      rw [putH_ne (by simp only [tb]; omega)]
      exact he.gsub c y hc
    · exact (putH_ne (by simp only [tb]; omega)).trans hx
  · simp -implicitDefEqProofs (disch := first | omega | (simp only [St.set_n, St.up_n, List.length_cons, List.length_nil]; omega)) only [go_sem, Nat.reduceAdd, Nat.reduceMul, Nat.reduceSub, Int.reduceAdd, Int.reduceMul, Int.reduceSub, Int.reduceNeg, Int.reduceToNat]
    have hfin := Aft.since he hk hn1 ha
    first | exact hK _ _ hfin hw' | (intro j3 hj3; exact hK _ _ (hfin.up hj3) (hw'.up hj3))
theorem thread_of (hw : YW q nr rn rr rb H) (ht : t ≤ 1000) : ∀ ops : List COp, ThrOk B q nr rn H t ops
  | [] => thread_nil
  | _ :: ops => thread_cons hw ht (thread_of hw ht ops)
end
end Go.Proofs.YtdbgeahmhfocaaaGreat
