/- Threads that poll: contracts, by walks. -/
import Derived.Test.YtdbgeahmhfocaaaGreatWth
namespace Go.Proofs.YtdbgeahmhfocaaaGreat
set_option linter.unusedSimpArgs false
set_option linter.unusedVariables false
set_option maxRecDepth 100000
open Go Go.RowKit
section
variable {B : World} {q : YB} {nr rn : Nat} {rr rb : Nat → Nat} {H : CU → HF} {K : Value → St → Prop} {G : Nat → Prop} {h : HF} {s : St} {t n : Nat}
theorem with_none (hw : YW q nr rn rr rb H) {u : CU} {sub : Int} {j f : Nat} {T : List CA} {nv : Value} (hs : ¬ (1 ≤ sub ∧ sub ≤ nr))
    (hn : NxN (cL (B := B) nr rn H) t n (fun _ u => EndOk u.log j) (fun a u => (u.fin j a, T)) nv h) (he : Env (cL (B := B) nr rn H) h G u s)
    (hK : ∀ v' s', Aft (cL (B := B) nr rn H) (Rep (cL (B := B) nr rn H) t (n + 1) (.an j :: T)) G u s v' s' → s'.wf B → K v' s') :
    Fn Tryz.prog B 55 #[.pointer (some ⟨q.c, 0, none⟩), .int .i64 t, .int .i64 sub, .func (.func f) #[] #[], nv] s K := by
  refine Fn.of is55 (by simp) fun hwf => ?_
  have hB := hwf.1
  simp only [b55, Tryz.f55, Option.getD_some]
  simp -implicitDefEqProofs (disch := first | omega | (simp only [St.set_n, St.up_n, List.length_cons, List.length_nil]; omega)) only [go_sem, Nat.reduceAdd, Nat.reduceMul, Nat.reduceSub, Int.reduceAdd, Int.reduceMul, Int.reduceSub, Int.reduceNeg, Int.reduceToNat, hn.one.1, hn.one.2]
  have hk1 : ∀ c, c < s.n → (((((s.set s.n (.raw (.cells #[.pointer (some ⟨q.c, 0, none⟩)] 27 (0, 0)))).set (s.n + 1) (.raw (.cells #[.int .i64 t] 3 (0, 0)))).set (s.n + 1 + 1) (.raw (.cells #[.func (.func f) #[] #[]] 129 (0, 0)))).set (s.n + 1 + 1 + 1) (.raw (.cells #[nv] 65 (0, 0)))).up (s.n + 1 + 1 + 1 + 1)).m c = s.m c := fun c hc => by simp -implicitDefEqProofs (disch := first | omega | (simp only [St.set_n, St.up_n, List.length_cons, List.length_nil]; omega)) only [go_sem, Nat.reduceAdd, Nat.reduceMul, Nat.reduceSub, Int.reduceAdd, Int.reduceMul, Int.reduceSub, Int.reduceNeg, Int.reduceToNat]
  have hw1 : (((((s.set s.n (.raw (.cells #[.pointer (some ⟨q.c, 0, none⟩)] 27 (0, 0)))).set (s.n + 1) (.raw (.cells #[.int .i64 t] 3 (0, 0)))).set (s.n + 1 + 1) (.raw (.cells #[.func (.func f) #[] #[]] 129 (0, 0)))).set (s.n + 1 + 1 + 1) (.raw (.cells #[nv] 65 (0, 0)))).up (s.n + 1 + 1 + 1 + 1)).wf B := by
    have h1 := set_wf1 (y := .raw (.cells #[nv] 65 (0, 0))) (set_wf1 (y := .raw (.cells #[.func (.func f) #[] #[]] 129 (0, 0))) (set_wf1 (y := .raw (.cells #[.int .i64 t] 3 (0, 0))) (set_wf1 (y := .raw (.cells #[.pointer (some ⟨q.c, 0, none⟩)] 27 (0, 0))) hwf)))
    exact h1
  have he1 := he.grow hk1 (by simp only [St.up_n]; omega) hw1
  have mn : (((((s.set s.n (.raw (.cells #[.pointer (some ⟨q.c, 0, none⟩)] 27 (0, 0)))).set (s.n + 1) (.raw (.cells #[.int .i64 t] 3 (0, 0)))).set (s.n + 1 + 1) (.raw (.cells #[.func (.func f) #[] #[]] 129 (0, 0)))).set (s.n + 1 + 1 + 1) (.raw (.cells #[nv] 65 (0, 0)))).up (s.n + 1 + 1 + 1 + 1)).m (s.n + 1 + 1 + 1) = some (.raw (.cells #[nv] 65 (0, 0))) := by simp -implicitDefEqProofs (disch := first | omega | (simp only [St.set_n, St.up_n, List.length_cons, List.length_nil]; omega)) only [go_sem, Nat.reduceAdd, Nat.reduceMul, Nat.reduceSub, Int.reduceAdd, Int.reduceMul, Int.reduceSub, Int.reduceNeg, Int.reduceToNat]
  have hn0 : s.n + 1 + 1 + 1 + 1 = (((((s.set s.n (.raw (.cells #[.pointer (some ⟨q.c, 0, none⟩)] 27 (0, 0)))).set (s.n + 1) (.raw (.cells #[.int .i64 t] 3 (0, 0)))).set (s.n + 1 + 1) (.raw (.cells #[.func (.func f) #[] #[]] 129 (0, 0)))).set (s.n + 1 + 1 + 1) (.raw (.cells #[nv] 65 (0, 0)))).up (s.n + 1 + 1 + 1 + 1)).n := rfl
  generalize ((((s.set s.n (.raw (.cells #[.pointer (some ⟨q.c, 0, none⟩)] 27 (0, 0)))).set (s.n + 1) (.raw (.cells #[.int .i64 t] 3 (0, 0)))).set (s.n + 1 + 1) (.raw (.cells #[.func (.func f) #[] #[]] 129 (0, 0)))).set (s.n + 1 + 1 + 1) (.raw (.cells #[nv] 65 (0, 0)))).up (s.n + 1 + 1 + 1 + 1) = s1 at hk1 hw1 he1 mn hn0 ⊢
  refine callF_of (ring_of hw he1 ?_)
  rw [if_neg hs]
  have mnn := (hw1.2 _ _ mn).2
  simp -implicitDefEqProofs (disch := first | omega | (simp only [St.set_n, St.up_n, List.length_cons, List.length_nil]; omega)) only [go_sem, Nat.reduceAdd, Nat.reduceMul, Nat.reduceSub, Int.reduceAdd, Int.reduceMul, Int.reduceSub, Int.reduceNeg, Int.reduceToNat, mn]
  have hk2 : ∀ c, c < s1.n → ((s1.set s1.n (.raw (.cells #[.pointer none] 100 (0, 0)))).up (s1.n + 1)).m c = s1.m c := fun c hc => by simp -implicitDefEqProofs (disch := first | omega | (simp only [St.set_n, St.up_n, List.length_cons, List.length_nil]; omega)) only [go_sem, Nat.reduceAdd, Nat.reduceMul, Nat.reduceSub, Int.reduceAdd, Int.reduceMul, Int.reduceSub, Int.reduceNeg, Int.reduceToNat]
  have he2 := he1.grow hk2 (by simp only [St.up_n]; omega) (set_wf1 (y := .raw (.cells #[.pointer none] 100 (0, 0))) hw1)
  have e0 : (#[.int .i64 4, .int .i64 0, .int .i64 0, .string ⟨#[]⟩, .string ⟨#[]⟩, .bool false] : Array Value) = (fAn (anE 4)).toArray := rfl
  rw [e0]
  refine callF_of (answer_of (L := cL (B := B) nr rn H) (t := t) (n := n) (x := .an j) (r := T) (a := anE 4) ((hn.more he.gsub).more he1.gsub) (fun u hu => hu) (fun u hu => ⟨rfl, rfl, rfl⟩) he2 fun v' s' ha hw' => ?_)
  simp -implicitDefEqProofs (disch := first | omega | (simp only [St.set_n, St.up_n, List.length_cons, List.length_nil]; omega)) only [go_sem, Nat.reduceAdd, Nat.reduceMul, Nat.reduceSub, Int.reduceAdd, Int.reduceMul, Int.reduceSub, Int.reduceNeg, Int.reduceToNat]
  exact hK _ _ (Aft.since he (fun c hc => by rw [hk2 c (by omega), hk1 c hc]) (by simp only [St.up_n]; omega) ha) hw'
/-- Operations that a thread can read. -/
structure OpsV (L : Lg B) (h : HF) (v : Value) (ops : List COp) : Prop where
  is : ∃ A cap, v = .slice A ops.length cap ∧ ops.length ≤ cap ∧ (ops ≠ [] → ∃ b o cs ty, A = some ⟨b, o, none⟩ ∧ (∀ G u s, Env L h G u s → s.m b = some (.raw (.cells cs ty (0, 0)))) ∧ ∀ j op, ops[j]? = some op → ∀ k v, (fOp op)[k]? = some v → cs[o + j * 5 + k]? = some v)
theorem OpsV.more {L : Lg B} {h2 : HF} {v : Value} {ops : List COp} (ho : OpsV L h v ops) (hs : ∀ c y, h c = some y → h2 c = some y) : OpsV L h2 v ops := by
  obtain ⟨A, cap, rfl, hc, h1⟩ := ho.is
  exact ⟨A, cap, rfl, hc, fun hne => let ⟨b, o, cs, ty, e, hb, hx⟩ := h1 hne; ⟨b, o, cs, ty, e, fun G u s he => hb G u s (he.less hs), hx⟩⟩
theorem OpsV.tail {L : Lg B} {A : Option Addr} {cap : Nat} {op : COp} {ops : List COp} (ho : OpsV L h (.slice A (ops.length + 1) cap) (op :: ops)) : OpsV L h (.slice (slA A cap 1 5) ops.length (cap - 1)) ops := by
  obtain ⟨A', cap', e, hc, h1⟩ := ho.is
  cases e
  obtain ⟨b, o, cs, ty, rfl, hb, hx⟩ := h1 (by simp)
  simp only [List.length_cons] at hc
  refine ⟨_, _, rfl, by omega, fun hne => ?_⟩
  have : ops.length ≠ 0 := fun e => hne (List.length_eq_zero_iff.1 e)
  rw [slA_mk (by omega)]
  refine ⟨b, o + 1 * 5, cs, ty, rfl, hb, fun j x hj k v hv => ?_⟩
  have := hx (j + 1) x (by rw [List.getElem?_cons_succ]; exact hj) k v hv
  rw [← this]; congr 1; omega
theorem OpsV.head {L : Lg B} {A : Option Addr} {cap : Nat} {op : COp} {ops : List COp} (ho : OpsV L h (.slice A (ops.length + 1) cap) (op :: ops)) : ∃ b o cs ty, A = some ⟨b, o, none⟩ ∧ (∀ G u s, Env L h G u s → s.m b = some (.raw (.cells cs ty (0, 0)))) ∧
    cs[o]? = some (.int .i64 op.kind) ∧ cs[o + 1]? = some (.int .i64 op.sub) ∧ cs[o + 2]? = some (.string op.text) ∧ cs[o + 3]? = some (.string op.pay) ∧ cs[o + 4]? = some (.bool op.keep) := by
  obtain ⟨A', cap', e, hc, h1⟩ := ho.is
  cases e
  obtain ⟨b, o, cs, ty, rfl, hb, hx⟩ := h1 (by simp)
  have h0 := hx 0 op rfl
  simp only [Nat.zero_mul, Nat.add_zero] at h0
  exact ⟨b, o, cs, ty, rfl, hb, h0 0 _ rfl, h0 1 _ rfl, h0 2 _ rfl, h0 3 _ rfl, h0 4 _ rfl⟩
def ThrOk (B : World) (q : YB) (nr rn : Nat) (H : CU → HF) (t : Nat) (ops : List COp) : Prop := ∀ (h : HF) (G : Nat → Prop) (u : CU) (s : St) (ov : Value) (K : Value → St → Prop), OpsV (cL (B := B) nr rn H) h ov ops → Env (cL (B := B) nr rn H) h G u s →
  (∀ v' s', Aft (cL (B := B) nr rn H) (Rep (cL (B := B) nr rn H) t (4 * ops.length) (ops.map .bg)) G u s v' s' → s'.wf B → K v' s') →
  Fn Tryz.prog B 12 #[.pointer (some ⟨q.c, 0, none⟩), .int .i64 t, ov, .pointer (some ⟨q.lp, 0, none⟩)] s K
structure TB where
  bc : Nat
  bm : Nat
  bo : Nat
  bl : Nat
  bi : Nat
  bn : Nat
structure TH (q : YB) (t : Nat) (ov : Value) (w : TB) (h : HF) : Prop where
  c : h w.bc = some (.raw (.cells #[.pointer (some ⟨q.c, 0, none⟩)] 27 (0, 0)))
  m : h w.bm = some (.raw (.cells #[.int .i64 t] 3 (0, 0)))
  o : h w.bo = some (.raw (.cells #[ov] 46 (0, 0)))
  l : h w.bl = some (.raw (.cells #[.pointer (some ⟨q.lp, 0, none⟩)] 43 (0, 0)))
def tnV (w : TB) : Value := .func (.func 33) #[] #[.pointer (some ⟨w.bl, 0, none⟩), .pointer (some ⟨w.bi, 0, none⟩), .pointer (some ⟨w.bc, 0, none⟩), .pointer (some ⟨w.bm, 0, none⟩), .pointer (some ⟨w.bo, 0, none⟩)]
theorem next_ok (hw : YW q nr rn rr rb H) {j : Nat} {op : COp} {ops : List COp} {A : Option Addr} {cap : Nat} {w : TB} (ih : ThrOk B q nr rn H t ops) (hh : TH q t (.slice A (ops.length + 1) cap) w h) (ho : OpsV (cL (B := B) nr rn H) h (.slice A (ops.length + 1) cap) (op :: ops)) (hi : h w.bi = some (.raw (.cells #[.int .i64 ((j : Int) + 1)] 3 (0, 0)))) :
    NxN (cL (B := B) nr rn H) t (4 * ops.length) (fun _ u => EndOk u.log j) (fun a u => (u.fin j a, ops.map .bg)) (tnV w) h := by
  refine ⟨_, _, _, rfl, fun a G (u : CU) s he hp => ?_⟩
  refine Fn.of is33 (by simp) fun hwf => ?_
  simp only [b33, Tryz.f33, Option.getD_some]
  have m1 := he.sub _ _ hh.l
  have m2 := he.sub _ _ hi
  have m1n := (hwf.2 _ _ m1).2
  have m2n := (hwf.2 _ _ m2).2
  simp -implicitDefEqProofs (disch := first | omega | (simp only [St.set_n, St.up_n, List.length_cons, List.length_nil]; omega)) only [go_sem, Nat.reduceAdd, Nat.reduceMul, Nat.reduceSub, Int.reduceAdd, Int.reduceMul, Int.reduceSub, Int.reduceNeg, Int.reduceToNat, fAn, m1, m2]
  have hk : ∀ c, c < s.n → ((s.set s.n (.raw (.cells (fAn a).toArray 64 (0, 0)))).up (s.n + 1)).m c = s.m c := fun c hc => by simp -implicitDefEqProofs (disch := first | omega | (simp only [St.set_n, St.up_n, List.length_cons, List.length_nil]; omega)) only [go_sem, Nat.reduceAdd, Nat.reduceMul, Nat.reduceSub, Int.reduceAdd, Int.reduceMul, Int.reduceSub, Int.reduceNeg, Int.reduceToNat]
  have hn1 : s.n ≤ ((s.set s.n (.raw (.cells (fAn a).toArray 64 (0, 0)))).up (s.n + 1)).n := by simp only [St.up_n]; omega
  have hw1 := set_wf1 (y := .raw (.cells (fAn a).toArray 64 (0, 0))) hwf
  have he1 : Env (cL (B := B) nr rn H) h G u ((s.set s.n (.raw (.cells (fAn a).toArray 64 (0, 0)))).up (s.n + 1)) := (he.grow hk hn1 hw1).less he.gsub
  refine callF_wf ((end_ok hw j a G u _ he1 hp).mono fun r s' ⟨hr, ha⟩ hw' => ?_)
  obtain ⟨h', rfl, he'⟩ := ha.env he1 (fun c hc => .inl hc) hw'
  have o1 := he'.sub _ _ hh.c
  have o2 := he'.sub _ _ hh.m
  have o3 := he'.sub _ _ hh.o
  have o4 := he'.sub _ _ hh.l
  have e1 : (1 : Int) ≤ (ops.length : Int) + 1 := by omega
  simp -implicitDefEqProofs (disch := first | omega | (simp only [St.set_n, St.up_n, List.length_cons, List.length_nil]; omega)) only [go_sem, Nat.reduceAdd, Nat.reduceMul, Nat.reduceSub, Int.reduceAdd, Int.reduceMul, Int.reduceSub, Int.reduceNeg, Int.reduceToNat, o1, o2, o3, o4, e1]
  refine effD_cut (by kernel_rfl) ?_
  intro jj hjj
  simp -implicitDefEqProofs (disch := first | omega | (simp only [St.set_n, St.up_n, List.length_cons, List.length_nil]; omega)) only [go_sem, Nat.reduceAdd, Nat.reduceMul, Nat.reduceSub, Int.reduceAdd, Int.reduceMul, Int.reduceSub, Int.reduceNeg, Int.reduceToNat]
  refine callF_of (ih h' G (u.fin j a) (s'.up jj) _ _ ho.tail (he'.up hjj) fun v' s2 ha2 hw2 => ?_)
  simp -implicitDefEqProofs (disch := first | omega | (simp only [St.set_n, St.up_n, List.length_cons, List.length_nil]; omega)) only [go_sem, Nat.reduceAdd, Nat.reduceMul, Nat.reduceSub, Int.reduceAdd, Int.reduceMul, Int.reduceSub, Int.reduceNeg, Int.reduceToNat]
  have hn2 : s'.n ≤ (s'.up jj).n := by simp only [St.up_n]; omega
  have hfin := Aft.since he hk hn1 (ha.trans (Aft.since (s1 := s'.up jj) he' (fun c _ => rfl) hn2 ha2))
  first | exact hfin | (intro j3 hj3; exact hfin.up hj3)
theorem beg_ok (hw : YW q nr rn rr rb H) {op : COp} {ops : List COp} {A : Option Addr} {cap : Nat} {w : TB} {i0 : Int} (hh : TH q t (.slice A (ops.length + 1) cap) w h) (ho : OpsV (cL (B := B) nr rn H) h (.slice A (ops.length + 1) cap) (op :: ops)) (hi : h w.bi = some (.raw (.cells #[.int .i64 i0] 3 (0, 0)))) :
    FxOk (cL (B := B) nr rn H) (fun u => preC rn t u (.bg op)) (fun u => { u with log := u.log.begin t op }) (fun u => putH h w.bi (.raw (.cells #[.int .i64 ((u.log.l.length : Int) + 1)] 3 (0, 0)))) (.func (.func 36) #[] #[.pointer (some ⟨w.bl, 0, none⟩), .pointer (some ⟨w.bm, 0, none⟩), .pointer (some ⟨w.bo, 0, none⟩), .pointer (some ⟨w.bi, 0, none⟩)]) h := by
  refine .inr ⟨_, _, _, rfl, fun G (u : CU) s he hp => ?_⟩
  obtain ⟨b, o, cs, ty, rfl, hb, c0, c1, c2, c3, c4⟩ := ho.head
  have mb := hb _ _ _ he
  have o2 := he.sub _ _ hh.m
  have o3 := he.sub _ _ hh.o
  have o4 := he.sub _ _ hh.l
  have e1 : (0 : Int) < (ops.length : Int) + 1 := by omega
  refine Fn.of is36 (by simp) fun hwf => ?_
  simp only [b36, Tryz.f36, Option.getD_some]
  simp -implicitDefEqProofs (disch := first | omega | (simp only [St.set_n, St.up_n, List.length_cons, List.length_nil]; omega)) only [go_sem, Nat.reduceAdd, Nat.reduceMul, Nat.reduceSub, Int.reduceAdd, Int.reduceMul, Int.reduceSub, Int.reduceNeg, Int.reduceToNat, o2, o3, o4, mb, c0, c1, c2, c3, c4, e1]
  refine effD_cut (by kernel_rfl) ?_
  intro jj hjj
  simp -implicitDefEqProofs (disch := first | omega | (simp only [St.set_n, St.up_n, List.length_cons, List.length_nil]; omega)) only [go_sem, Nat.reduceAdd, Nat.reduceMul, Nat.reduceSub, Int.reduceAdd, Int.reduceMul, Int.reduceSub, Int.reduceNeg, Int.reduceToNat]
  refine callF_wf ((begin_ok hw t op G u _ (he.up hjj) hp).mono fun r s' ⟨hr, ha⟩ hw' => ?_)
  subst hr
  obtain ⟨h', rfl, he'⟩ := ha.env (he.up hjj) (fun c hc => .inl hc) hw'
  have o5 := he'.sub _ _ hi
  simp -implicitDefEqProofs (disch := first | omega | (simp only [St.set_n, St.up_n, List.length_cons, List.length_nil]; omega)) only [go_sem, Nat.reduceAdd, Nat.reduceMul, Nat.reduceSub, Int.reduceAdd, Int.reduceMul, Int.reduceSub, Int.reduceNeg, Int.reduceToNat, o5]
  refine effD_tail (by kernel_rfl) ?_
  simp -implicitDefEqProofs (disch := first | omega | (simp only [St.set_n, St.up_n, List.length_cons, List.length_nil]; omega)) only [go_sem, Nat.reduceAdd, Nat.reduceMul, Nat.reduceSub, Int.reduceAdd, Int.reduceMul, Int.reduceSub, Int.reduceNeg, Int.reduceToNat, o5]
  have hn2 : s.n ≤ (s.up jj).n := by simp only [St.up_n]; omega
  have hfin := Aft.since (s1 := s.up jj) he (fun c _ => rfl) hn2 (ha.put (b := w.bi) (by rw [hi]; simp) (.raw (.cells #[.int .i64 ((u.log.l.length : Int) + 1)] 3 (0, 0))))
  first | exact hfin | (intro j3 hj3; exact hfin.up hj3)
end
end Go.Proofs.YtdbgeahmhfocaaaGreat
