/- Histories: which calls are minimal: walks. -/
import Derived.Test.YtgcojbgkenndhaaHistW
namespace Go.Proofs.Ytgcojbgkenndhaa
set_option pp.deepTerms false
set_option pp.deepTerms.threshold 8
set_option linter.unusedSimpArgs false
set_option linter.unusedVariables false
set_option maxRecDepth 100000
open Go Go.RowKit
def dnB (dn : List Bool) (i : Nat) : Bool := dn.getD i false
def okT (l : List Cl) (dn : List Bool) (i : Nat) (c : Cl) (k : Nat) : Bool := match l[k]? with | some d => decide (k = i) || dnB dn k || !decide (d.to < c.fr) | none => true
def okB (l : List Cl) (dn : List Bool) (i : Nat) (c : Cl) (n : Nat) : Bool := (List.range n).all (okT l dn i c)
theorem okB_succ (l : List Cl) (dn : List Bool) (i : Nat) (c : Cl) (n : Nat) : okB l dn i c (n + 1) = (okB l dn i c n && okT l dn i c n) := by simp [okB, List.range_succ]
theorem okB_zero (l : List Cl) (dn : List Bool) (i : Nat) (c : Cl) : okB l dn i c 0 = true := rfl
def frB (l : List Cl) (dn : List Bool) (i : Nat) : Bool := match l[i]? with | some c => !dnB dn i && okB l dn i c l.length | none => false
def outs (l : List Cl) (dn : List Bool) (n : Nat) : List Int := ((List.range n).filter (frB l dn)).map fun i : Nat => (i : Int)
theorem outs_succ (l : List Cl) (dn : List Bool) (n : Nat) : outs l dn (n + 1) = if frB l dn n then outs l dn n ++ [(n : Int)] else outs l dn n := by
  unfold outs
  rw [List.range_succ, List.filter_append]
  by_cases h : frB l dn n <;> simp [h]
theorem outs_len (l : List Cl) (dn : List Bool) (n : Nat) : (outs l dn n).length ≤ n := by
  unfold outs
  rw [List.length_map]
  have := List.length_filter_le (frB l dn) (List.range n)
  simpa using this
section
variable {B : World} {σ τ : St} {K : Value → St → Prop}
/-- 'append' of one element to a slice that the frame owns; all else is as it was. -/
theorem appF_eq {P : Program} {s : St} {d : Option Tmp} {K : Fr → St → Prop} {e : Fr} {t xt el : TypeId} {sz bts n c : Nat} {z w : Value} {cs ys : List Value} (hwf : s.wf B) (hw : Own s el sz cs n w) (ht : se P t = some (el, sz, bts)) (hxt : kd P xt = .slice) (hz : zr P el = some z) (hzs : z.cells.size = sz) (hb0 : bts ≠ 0)
    {ty : TypeId} (hyl : ys.length = sz) (hy1 : ys.all Value.oneCell' = true) (hroom : (2 * (n + 1) + 768) * bts ≤ 2 ^ 48)
    (hK : ∀ A C σ', n + 1 ≤ C → Own σ' el sz (cs ++ ys) (n + 1) (.slice A (n + 1) C) → (∀ c, c < s.n → blk w ≠ some c → σ'.m c = s.m c) → (∀ b, blk (.slice A (n + 1) C) = some b → s.n ≤ b ∨ blk w = some b) → s.n ≤ σ'.n → K (e.put d (.slice A (n + 1) C)) σ') :
    appK P B t xt w (.slice (some ⟨s.n, 0, none⟩) 1 c) d K e ((s.set s.n (.raw (.cells ys.toArray ty (0, 0)))).up (s.n + 1)) := by
  have keep : ∀ c x, s.m c = some x → ((s.set s.n (.raw (.cells ys.toArray ty (0, 0)))).up (s.n + 1)).m c = some x := fun c x hc => by
    have := (hwf.2 c _ hc).2
    simp only [St.up_m]
    rw [St.set_m_ne _ _ (by omega)]; exact hc
  refine appK_one2 ht hxt hz hzs hb0 (hw.keepR fun b o _ hb => keep b _ hb) (ty := ty) (fz := (0, 0)) (by simp) hyl hy1 hroom fun v' σ' h1 h2 h3 h4 => ?_
  obtain ⟨A, C, rfl, hC⟩ := h1.is
  simp only [St.up_n] at h2 h4
  have hb : ∀ b, blk (.slice A (n + 1) C) = some b → s.n ≤ b ∨ blk w = some b := fun b hb => (h2 b hb).imp (fun h => by omega) id
  refine hK A C σ' hC h1 (fun c hc hw' => ?_) hb (by omega)
  rw [h3 c fun e => (hb c e).elim (by omega) hw']
  simp only [St.up_m]
  rw [St.set_m_ne _ _ (by omega)]
theorem done_is {dn : List Bool} {dv : Value} {x3 i : Nat} (hx : σ.m x3 = some (.raw (.cells #[dv] 27 (0, 0)))) (ho : Own σ 4 1 (bools dn) dn.length dv) (hK : K (.bool (dnB dn i)) σ) : Fn Try.prog B 56 #[.int .i64 i, .pointer (some ⟨x3, 0, none⟩)] σ K := by
  obtain ⟨A, c, rfl, _⟩ := ho.is
  refine Fn.of is56 (by simp) fun hwf => ?_
  simp only [b56, Try.f56, Option.getD_some]
  by_cases hlt : (i : Int) < dn.length
  · obtain ⟨y, hy⟩ : ∃ y, dn[i]? = some y := ⟨dn[i]'(by omega), List.getElem?_eq_getElem (by omega)⟩
    obtain ⟨b, c1, sp, e1, _, m1, _, _⟩ := ho.has (by omega)
    cases e1
    have g := bools_get hy sp
    have hd : dnB dn i = y := by simp [dnB, hy]
    rw [hd] at hK
    simp -implicitDefEqProofs (disch := first | omega | (simp only [St.set_n, St.up_n, List.length_cons, List.length_nil]; omega)) only [go_sem, Nat.reduceAdd, Nat.reduceMul, Nat.reduceSub, Int.reduceAdd, Int.reduceMul, Int.reduceSub, Int.reduceNeg, Int.reduceToNat, hx, hlt, m1, g]
    exact hK
  · have hd : dnB dn i = false := by
      unfold dnB
      rw [List.getD_eq_getElem?_getD, List.getElem?_eq_none (by omega)]; rfl
    rw [hd] at hK
    simp -implicitDefEqProofs (disch := first | omega | (simp only [St.set_n, St.up_n, List.length_cons, List.length_nil]; omega)) only [go_sem, Nat.reduceAdd, Nat.reduceMul, Nat.reduceSub, Int.reduceAdd, Int.reduceMul, Int.reduceSub, Int.reduceNeg, Int.reduceToNat, hx, hlt]
    exact hK
structure MnI (A : Option Addr) (n c x3 i : Nat) (e : Fr) : Prop where
  v0 : e.v 0 = .slice A n c
  v5 : e.v 5 = .func (.func 56) #[] #[.pointer (some ⟨x3, 0, none⟩)]
  v13 : e.v 13 = .slice A n c
  v14 : e.v 14 = .int .i64 n
  v15 : e.v 15 = .int .i64 i
  d : e.d = []
structure MnS (B : World) (σ : St) (x3 : Nat) (dv : Value) (dn : List Bool) (o : List Int) (ov : Value) (s : St) : Prop where
  bx : s.m x3 = some (.raw (.cells #[dv] 27 (0, 0)))
  dn : Own s 4 1 (bools dn) dn.length dv
  ow : Own s 3 1 (ints o) o.length ov
  nb : ∀ b, blk ov = some b → x3 < b
  old : ∀ c, c < x3 → s.m c = σ.m c
  n : x3 < s.n
theorem MnS.more {x3 : Nat} {dv ov : Value} {dn : List Bool} {o : List Int} {s s1 : St} (h : MnS B σ x3 dv dn o ov s) (hk : ∀ c x, s.m c = some x → s1.m c = some x) (hold : ∀ c, c < x3 → s1.m c = s.m c) (hn : s.n ≤ s1.n) : MnS B σ x3 dv dn o ov s1 :=
  ⟨hk _ _ h.bx, h.dn.keepR fun b o _ ho => hk _ _ ho, h.ow.keepR fun b o _ ho => hk _ _ ho, h.nb, fun c hc => (hold c hc).trans (h.old c hc), by have := h.n; omega⟩
structure MnJ (A : Option Addr) (n c x3 x8 i k : Nat) (free : Bool) (e : Fr) : Prop where
  I : MnI A n c x3 i e
  v7 : e.v 7 = .int .i64 i
  v8 : e.v 8 = .pointer (some ⟨x8, 0, none⟩)
  v9 : e.v 9 = .bool free
  v24 : e.v 24 = .slice A n c
  v25 : e.v 25 = .int .i64 n
  v26 : e.v 26 = .int .i64 k
structure MnV (v : Value) (e : Fr) : Prop where
  v6 : e.v 6 = v
structure MnX (c : Cl) (x8 : Nat) (s : St) : Prop where
  bx : s.m x8 = some (.raw (.cells (fC c).toArray 65 (0, 0)))
set_option maxHeartbeats 8000000 in
theorem hist_minimal {l : List Cl} {dn : List Bool} {v dv : Value} (hl : l.length ≤ 100000) (hdl : dn.length ≤ 100000) (ho : Sq B σ l v) (hdn : Own σ 4 1 (bools dn) dn.length dv)
    (hK : ∀ v' s, Own s 3 1 (ints (outs l dn l.length)) (outs l dn l.length).length v' → (∀ c, c < σ.n → s.m c = σ.m c) → (∀ b, blk v' = some b → σ.n ≤ b) → σ.n ≤ s.n → K v' s) : Fn Try.prog B 40 #[v, dv] σ K := by
  obtain ⟨A, cap, rfl, hc, ho⟩ := ho
  refine Fn.of is40 (by simp) fun hwf => ?_
  simp only [b40, Try.f40, Option.getD_some]
  simp -implicitDefEqProofs (disch := first | omega | (simp only [St.set_n, St.up_n, List.length_cons, List.length_nil]; omega)) only [go_sem, Nat.reduceAdd, Nat.reduceMul, Nat.reduceSub, Int.reduceAdd, Int.reduceMul, Int.reduceSub, Int.reduceNeg, Int.reduceToNat]
  have hM0 : MnS B σ σ.n dv dn [] (.slice none 0 0) ((σ.set σ.n (.raw (.cells (vc dv) 27 (0, 0)))).up (σ.n + 1)) := by
    obtain ⟨_, _, rfl, _⟩ := hdn.is
    refine ⟨by simp -implicitDefEqProofs (disch := first | omega | (simp only [St.set_n, St.up_n, List.length_cons, List.length_nil]; omega)) only [go_sem, Nat.reduceAdd, Nat.reduceMul, Nat.reduceSub, Int.reduceAdd, Int.reduceMul, Int.reduceSub, Int.reduceNeg, Int.reduceToNat], hdn.keepR fun b o _ hb => ?_, Own.nil, fun b hb => (by cases hb), fun c hc => by simp -implicitDefEqProofs (disch := first | omega | (simp only [St.set_n, St.up_n, List.length_cons, List.length_nil]; omega)) only [go_sem, Nat.reduceAdd, Nat.reduceMul, Nat.reduceSub, Int.reduceAdd, Int.reduceMul, Int.reduceSub, Int.reduceNeg, Int.reduceToNat], by simp only [St.up_n]; omega⟩
    have := (hwf.2 _ _ hb).2
    simp -implicitDefEqProofs (disch := first | omega | (simp only [St.set_n, St.up_n, List.length_cons, List.length_nil]; omega)) only [go_sem, Nat.reduceAdd, Nat.reduceMul, Nat.reduceSub, Int.reduceAdd, Int.reduceMul, Int.reduceSub, Int.reduceNeg, Int.reduceToNat, hb]
  generalize ((σ.set σ.n (.raw (.cells (vc dv) 27 (0, 0)))).up (σ.n + 1)) = s0 at hM0 ⊢
  refine loop_rule (fun m e s => ∃ (i : Nat) (ov : Value), m = l.length - i ∧ i ≤ l.length ∧ MnI A l.length cap σ.n i e ∧ MnV ov e ∧ MnS B σ σ.n dv dn (outs l dn i) ov s) l.length ?_ ?_
  · exact ⟨0, .slice none 0 0, by omega, by omega, ⟨by simp -implicitDefEqProofs (disch := first | omega | (simp only [St.set_n, St.up_n, List.length_cons, List.length_nil]; omega)) only [go_sem, Nat.reduceAdd, Nat.reduceMul, Nat.reduceSub, Int.reduceAdd, Int.reduceMul, Int.reduceSub, Int.reduceNeg, Int.reduceToNat], by simp -implicitDefEqProofs (disch := first | omega | (simp only [St.set_n, St.up_n, List.length_cons, List.length_nil]; omega)) only [go_sem, Nat.reduceAdd, Nat.reduceMul, Nat.reduceSub, Int.reduceAdd, Int.reduceMul, Int.reduceSub, Int.reduceNeg, Int.reduceToNat], by simp -implicitDefEqProofs (disch := first | omega | (simp only [St.set_n, St.up_n, List.length_cons, List.length_nil]; omega)) only [go_sem, Nat.reduceAdd, Nat.reduceMul, Nat.reduceSub, Int.reduceAdd, Int.reduceMul, Int.reduceSub, Int.reduceNeg, Int.reduceToNat], by simp -implicitDefEqProofs (disch := first | omega | (simp only [St.set_n, St.up_n, List.length_cons, List.length_nil]; omega)) only [go_sem, Nat.reduceAdd, Nat.reduceMul, Nat.reduceSub, Int.reduceAdd, Int.reduceMul, Int.reduceSub, Int.reduceNeg, Int.reduceToNat], by simp -implicitDefEqProofs (disch := first | omega | (simp only [St.set_n, St.up_n, List.length_cons, List.length_nil]; omega)) only [go_sem, Nat.reduceAdd, Nat.reduceMul, Nat.reduceSub, Int.reduceAdd, Int.reduceMul, Int.reduceSub, Int.reduceNeg, Int.reduceToNat]; rfl, by simp -implicitDefEqProofs (disch := first | omega | (simp only [St.set_n, St.up_n, List.length_cons, List.length_nil]; omega)) only [go_sem, Nat.reduceAdd, Nat.reduceMul, Nat.reduceSub, Int.reduceAdd, Int.reduceMul, Int.reduceSub, Int.reduceNeg, Int.reduceToNat]⟩, ⟨by simp -implicitDefEqProofs (disch := first | omega | (simp only [St.set_n, St.up_n, List.length_cons, List.length_nil]; omega)) only [go_sem, Nat.reduceAdd, Nat.reduceMul, Nat.reduceSub, Int.reduceAdd, Int.reduceMul, Int.reduceSub, Int.reduceNeg, Int.reduceToNat]⟩, hM0⟩
  clear hM0
  rintro m e s hws ⟨i, ov, hm, hi, ⟨q0, q5, q13, q14, q15, hd⟩, ⟨q6⟩, hM⟩
  by_cases hlt : (i : Int) < l.length
  · obtain ⟨c, hci⟩ : ∃ x, l[i]? = some x := ⟨l[i]'(by omega), List.getElem?_eq_getElem (by omega)⟩
    obtain ⟨b, o, rfl, hb, hcell⟩ := ho i c hci
    have hcell' := hcell
    rw [← hM.old b hb] at hcell'
    have hcc := sq_cells hcell'
    have hMn := hM.n
    simp -implicitDefEqProofs (disch := first | omega | (simp only [St.set_n, St.up_n, List.length_cons, List.length_nil]; omega)) only [go_sem, Nat.reduceAdd, Nat.reduceMul, Nat.reduceSub, Int.reduceAdd, Int.reduceMul, Int.reduceSub, Int.reduceNeg, Int.reduceToNat, q0, q5, q13, q14, q15, hlt, hcc]
    have hM1 : MnS B σ σ.n dv dn (outs l dn i) ov ((s.set s.n (.raw (.cells (fC c).toArray 65 (0, 0)))).up (s.n + 1)) := hM.more (fun c x hx => by have := (hws.2 _ _ hx).2; simp -implicitDefEqProofs (disch := first | omega | (simp only [St.set_n, St.up_n, List.length_cons, List.length_nil]; omega)) only [go_sem, Nat.reduceAdd, Nat.reduceMul, Nat.reduceSub, Int.reduceAdd, Int.reduceMul, Int.reduceSub, Int.reduceNeg, Int.reduceToNat, hx]) (fun c hc => by simp -implicitDefEqProofs (disch := first | omega | (simp only [St.set_n, St.up_n, List.length_cons, List.length_nil]; omega)) only [go_sem, Nat.reduceAdd, Nat.reduceMul, Nat.reduceSub, Int.reduceAdd, Int.reduceMul, Int.reduceSub, Int.reduceNeg, Int.reduceToNat]) (by simp only [St.up_n]; omega)
    refine callF_of (done_is (i := i) hM1.bx hM1.dn ?_)
    simp -implicitDefEqProofs (disch := first | omega | (simp only [St.set_n, St.up_n, List.length_cons, List.length_nil]; omega)) only [go_sem, Nat.reduceAdd, Nat.reduceMul, Nat.reduceSub, Int.reduceAdd, Int.reduceMul, Int.reduceSub, Int.reduceNeg, Int.reduceToNat, q0, q5]
    have hX1 : MnX c s.n ((s.set s.n (.raw (.cells (fC c).toArray 65 (0, 0)))).up (s.n + 1)) := ⟨by simp -implicitDefEqProofs (disch := first | omega | (simp only [St.set_n, St.up_n, List.length_cons, List.length_nil]; omega)) only [go_sem, Nat.reduceAdd, Nat.reduceMul, Nat.reduceSub, Int.reduceAdd, Int.reduceMul, Int.reduceSub, Int.reduceNeg, Int.reduceToNat]⟩
    have hw1 : ((s.set s.n (.raw (.cells (fC c).toArray 65 (0, 0)))).up (s.n + 1)).wf B := by
      have := hws.1
      refine ⟨by simp only [St.up_n]; omega, fun d x hx => ?_⟩
      simp only [St.up_m, St.set, St.up_n] at hx ⊢
      split at hx
      · omega
      · have := hws.2 _ _ hx; omega
    have hn1 : s.n < ((s.set s.n (.raw (.cells (fC c).toArray 65 (0, 0)))).up (s.n + 1)).n := by simp only [St.up_n]; omega
    have hfC : (fC c).toArray = #[.int .i64 c.th, .int .i64 c.pl, .int .i64 c.op.kind, .int .i64 c.op.sub, .string c.op.text, .string c.op.pay, .bool c.op.keep, .int .i64 c.an.err, .int .i64 c.an.a, .int .i64 c.an.b, .string c.an.topic, .string c.an.pay, .bool c.an.kept, .int .i64 c.fr, .int .i64 c.to] := rfl
    rw [← hfC]
    generalize (s.set s.n (.raw (.cells (fC c).toArray 65 (0, 0)))).up (s.n + 1) = s1 at hM1 hX1 hw1 hn1 ⊢
    refine loop_rule (fun m e s2 => ∃ k : Nat, m = l.length - k ∧ k ≤ l.length ∧ MnJ (some ⟨b, o, none⟩) l.length cap σ.n s.n i k (!dnB dn i && okB l dn i c k) e ∧ MnV ov e ∧ MnS B σ σ.n dv dn (outs l dn i) ov s2 ∧ MnX c s.n s2) l.length ?_ ?_
    · exact ⟨0, by omega, by omega, ⟨⟨by simp -implicitDefEqProofs (disch := first | omega | (simp only [St.set_n, St.up_n, List.length_cons, List.length_nil]; omega)) only [go_sem, Nat.reduceAdd, Nat.reduceMul, Nat.reduceSub, Int.reduceAdd, Int.reduceMul, Int.reduceSub, Int.reduceNeg, Int.reduceToNat, q0], by simp -implicitDefEqProofs (disch := first | omega | (simp only [St.set_n, St.up_n, List.length_cons, List.length_nil]; omega)) only [go_sem, Nat.reduceAdd, Nat.reduceMul, Nat.reduceSub, Int.reduceAdd, Int.reduceMul, Int.reduceSub, Int.reduceNeg, Int.reduceToNat, q5], by simp -implicitDefEqProofs (disch := first | omega | (simp only [St.set_n, St.up_n, List.length_cons, List.length_nil]; omega)) only [go_sem, Nat.reduceAdd, Nat.reduceMul, Nat.reduceSub, Int.reduceAdd, Int.reduceMul, Int.reduceSub, Int.reduceNeg, Int.reduceToNat, q13], by simp -implicitDefEqProofs (disch := first | omega | (simp only [St.set_n, St.up_n, List.length_cons, List.length_nil]; omega)) only [go_sem, Nat.reduceAdd, Nat.reduceMul, Nat.reduceSub, Int.reduceAdd, Int.reduceMul, Int.reduceSub, Int.reduceNeg, Int.reduceToNat, q14], by simp -implicitDefEqProofs (disch := first | omega | (simp only [St.set_n, St.up_n, List.length_cons, List.length_nil]; omega)) only [go_sem, Nat.reduceAdd, Nat.reduceMul, Nat.reduceSub, Int.reduceAdd, Int.reduceMul, Int.reduceSub, Int.reduceNeg, Int.reduceToNat, q15], by simp -implicitDefEqProofs (disch := first | omega | (simp only [St.set_n, St.up_n, List.length_cons, List.length_nil]; omega)) only [go_sem, Nat.reduceAdd, Nat.reduceMul, Nat.reduceSub, Int.reduceAdd, Int.reduceMul, Int.reduceSub, Int.reduceNeg, Int.reduceToNat, hd]⟩, by simp -implicitDefEqProofs (disch := first | omega | (simp only [St.set_n, St.up_n, List.length_cons, List.length_nil]; omega)) only [go_sem, Nat.reduceAdd, Nat.reduceMul, Nat.reduceSub, Int.reduceAdd, Int.reduceMul, Int.reduceSub, Int.reduceNeg, Int.reduceToNat], by simp -implicitDefEqProofs (disch := first | omega | (simp only [St.set_n, St.up_n, List.length_cons, List.length_nil]; omega)) only [go_sem, Nat.reduceAdd, Nat.reduceMul, Nat.reduceSub, Int.reduceAdd, Int.reduceMul, Int.reduceSub, Int.reduceNeg, Int.reduceToNat], by rw [okB_zero]; simp -implicitDefEqProofs (disch := first | omega | (simp only [St.set_n, St.up_n, List.length_cons, List.length_nil]; omega)) only [go_sem, Nat.reduceAdd, Nat.reduceMul, Nat.reduceSub, Int.reduceAdd, Int.reduceMul, Int.reduceSub, Int.reduceNeg, Int.reduceToNat], by simp -implicitDefEqProofs (disch := first | omega | (simp only [St.set_n, St.up_n, List.length_cons, List.length_nil]; omega)) only [go_sem, Nat.reduceAdd, Nat.reduceMul, Nat.reduceSub, Int.reduceAdd, Int.reduceMul, Int.reduceSub, Int.reduceNeg, Int.reduceToNat], by simp -implicitDefEqProofs (disch := first | omega | (simp only [St.set_n, St.up_n, List.length_cons, List.length_nil]; omega)) only [go_sem, Nat.reduceAdd, Nat.reduceMul, Nat.reduceSub, Int.reduceAdd, Int.reduceMul, Int.reduceSub, Int.reduceNeg, Int.reduceToNat], by simp -implicitDefEqProofs (disch := first | omega | (simp only [St.set_n, St.up_n, List.length_cons, List.length_nil]; omega)) only [go_sem, Nat.reduceAdd, Nat.reduceMul, Nat.reduceSub, Int.reduceAdd, Int.reduceMul, Int.reduceSub, Int.reduceNeg, Int.reduceToNat]; rfl⟩, ⟨by simp -implicitDefEqProofs (disch := first | omega | (simp only [St.set_n, St.up_n, List.length_cons, List.length_nil]; omega)) only [go_sem, Nat.reduceAdd, Nat.reduceMul, Nat.reduceSub, Int.reduceAdd, Int.reduceMul, Int.reduceSub, Int.reduceNeg, Int.reduceToNat, q6]⟩, hM1, hX1⟩
    clear q0 q5 q13 q14 q15 q6 hd hM1 hX1 hw1
    rintro m e s2 hws2 ⟨k, hm', hk, ⟨⟨q0, q5, q13, q14, q15, hd⟩, q7, q8, q9, q24, q25, q26⟩, ⟨q6⟩, hM2, ⟨hx8⟩⟩
    by_cases hkl : (k : Int) < l.length
    · obtain ⟨d, hdk⟩ : ∃ x, l[k]? = some x := ⟨l[k]'(by omega), List.getElem?_eq_getElem (by omega)⟩
      obtain ⟨_, _, e0, _, hdcell⟩ := ho k d hdk
      cases e0
      rw [← hM2.old b hb] at hdcell
      have hdd := sq_cells hdcell
      have hMn2 := hM2.n
      have hsn := (hws2.2 _ _ hx8).2
      have hM3 : MnS B σ σ.n dv dn (outs l dn i) ov ((s2.set s2.n (.raw (.cells (fC d).toArray 65 (0, 0)))).up (s2.n + 1)) := hM2.more (fun c x hx => by have := (hws2.2 _ _ hx).2; simp -implicitDefEqProofs (disch := first | omega | (simp only [St.set_n, St.up_n, List.length_cons, List.length_nil]; omega)) only [go_sem, Nat.reduceAdd, Nat.reduceMul, Nat.reduceSub, Int.reduceAdd, Int.reduceMul, Int.reduceSub, Int.reduceNeg, Int.reduceToNat, hx]) (fun c hc => by simp -implicitDefEqProofs (disch := first | omega | (simp only [St.set_n, St.up_n, List.length_cons, List.length_nil]; omega)) only [go_sem, Nat.reduceAdd, Nat.reduceMul, Nat.reduceSub, Int.reduceAdd, Int.reduceMul, Int.reduceSub, Int.reduceNeg, Int.reduceToNat]) (by simp only [St.up_n]; omega)
      have hfD : (fC d).toArray = #[.int .i64 d.th, .int .i64 d.pl, .int .i64 d.op.kind, .int .i64 d.op.sub, .string d.op.text, .string d.op.pay, .bool d.op.keep, .int .i64 d.an.err, .int .i64 d.an.a, .int .i64 d.an.b, .string d.an.topic, .string d.an.pay, .bool d.an.kept, .int .i64 d.fr, .int .i64 d.to] := rfl
      have hX3 : MnX c s.n ((s2.set s2.n (.raw (.cells (fC d).toArray 65 (0, 0)))).up (s2.n + 1)) := ⟨by simp -implicitDefEqProofs (disch := first | omega | (simp only [St.set_n, St.up_n, List.length_cons, List.length_nil]; omega)) only [go_sem, Nat.reduceAdd, Nat.reduceMul, Nat.reduceSub, Int.reduceAdd, Int.reduceMul, Int.reduceSub, Int.reduceNeg, Int.reduceToNat, hx8]⟩
      have hnext : ∀ (e' : Fr) (s3 : St), MnJ (some ⟨b, o, none⟩) l.length cap σ.n s.n i (k + 1) (!dnB dn i && okB l dn i c (k + 1)) e' → MnV ov e' → MnS B σ σ.n dv dn (outs l dn i) ov s3 → MnX c s.n s3 →
          ∃ m', m' < m ∧ ∃ k : Nat, m' = l.length - k ∧ k ≤ l.length ∧ MnJ (some ⟨b, o, none⟩) l.length cap σ.n s.n i k (!dnB dn i && okB l dn i c k) e' ∧ MnV ov e' ∧ MnS B σ σ.n dv dn (outs l dn i) ov s3 ∧ MnX c s.n s3 :=
        fun e' s3 h1 h2 h3 h4 => ⟨l.length - (k + 1), by omega, k + 1, rfl, by omega, h1, h2, h3, h4⟩
      have hT : okB l dn i c (k + 1) = (okB l dn i c k && (decide (k = i) || dnB dn k || !decide (d.to < c.fr))) := by rw [okB_succ]; simp only [okT, hdk]
      cases hfree : (!dnB dn i && okB l dn i c k) with
      | false =>
        have hf2 : (!dnB dn i && okB l dn i c (k + 1)) = false := by rw [hT, ← Bool.and_assoc, hfree, Bool.false_and]
        rw [hfree] at q9
        simp -implicitDefEqProofs (disch := first | omega | (simp only [St.set_n, St.up_n, List.length_cons, List.length_nil]; omega)) only [go_sem, Nat.reduceAdd, Nat.reduceMul, Nat.reduceSub, Int.reduceAdd, Int.reduceMul, Int.reduceSub, Int.reduceNeg, Int.reduceToNat, q0, q5, q7, q8, q9, q24, q25, q26, hkl, hdd]
        rw [← hfD]
        exact hnext _ _ ⟨⟨by simp -implicitDefEqProofs (disch := first | omega | (simp only [St.set_n, St.up_n, List.length_cons, List.length_nil]; omega)) only [go_sem, Nat.reduceAdd, Nat.reduceMul, Nat.reduceSub, Int.reduceAdd, Int.reduceMul, Int.reduceSub, Int.reduceNeg, Int.reduceToNat, q0], by simp -implicitDefEqProofs (disch := first | omega | (simp only [St.set_n, St.up_n, List.length_cons, List.length_nil]; omega)) only [go_sem, Nat.reduceAdd, Nat.reduceMul, Nat.reduceSub, Int.reduceAdd, Int.reduceMul, Int.reduceSub, Int.reduceNeg, Int.reduceToNat, q5], by simp -implicitDefEqProofs (disch := first | omega | (simp only [St.set_n, St.up_n, List.length_cons, List.length_nil]; omega)) only [go_sem, Nat.reduceAdd, Nat.reduceMul, Nat.reduceSub, Int.reduceAdd, Int.reduceMul, Int.reduceSub, Int.reduceNeg, Int.reduceToNat, q13], by simp -implicitDefEqProofs (disch := first | omega | (simp only [St.set_n, St.up_n, List.length_cons, List.length_nil]; omega)) only [go_sem, Nat.reduceAdd, Nat.reduceMul, Nat.reduceSub, Int.reduceAdd, Int.reduceMul, Int.reduceSub, Int.reduceNeg, Int.reduceToNat, q14], by simp -implicitDefEqProofs (disch := first | omega | (simp only [St.set_n, St.up_n, List.length_cons, List.length_nil]; omega)) only [go_sem, Nat.reduceAdd, Nat.reduceMul, Nat.reduceSub, Int.reduceAdd, Int.reduceMul, Int.reduceSub, Int.reduceNeg, Int.reduceToNat, q15], by simp -implicitDefEqProofs (disch := first | omega | (simp only [St.set_n, St.up_n, List.length_cons, List.length_nil]; omega)) only [go_sem, Nat.reduceAdd, Nat.reduceMul, Nat.reduceSub, Int.reduceAdd, Int.reduceMul, Int.reduceSub, Int.reduceNeg, Int.reduceToNat, hd]⟩, by simp -implicitDefEqProofs (disch := first | omega | (simp only [St.set_n, St.up_n, List.length_cons, List.length_nil]; omega)) only [go_sem, Nat.reduceAdd, Nat.reduceMul, Nat.reduceSub, Int.reduceAdd, Int.reduceMul, Int.reduceSub, Int.reduceNeg, Int.reduceToNat, q7], by simp -implicitDefEqProofs (disch := first | omega | (simp only [St.set_n, St.up_n, List.length_cons, List.length_nil]; omega)) only [go_sem, Nat.reduceAdd, Nat.reduceMul, Nat.reduceSub, Int.reduceAdd, Int.reduceMul, Int.reduceSub, Int.reduceNeg, Int.reduceToNat, q8], by rw [hf2]; simp -implicitDefEqProofs (disch := first | omega | (simp only [St.set_n, St.up_n, List.length_cons, List.length_nil]; omega)) only [go_sem, Nat.reduceAdd, Nat.reduceMul, Nat.reduceSub, Int.reduceAdd, Int.reduceMul, Int.reduceSub, Int.reduceNeg, Int.reduceToNat], by simp -implicitDefEqProofs (disch := first | omega | (simp only [St.set_n, St.up_n, List.length_cons, List.length_nil]; omega)) only [go_sem, Nat.reduceAdd, Nat.reduceMul, Nat.reduceSub, Int.reduceAdd, Int.reduceMul, Int.reduceSub, Int.reduceNeg, Int.reduceToNat, q24], by simp -implicitDefEqProofs (disch := first | omega | (simp only [St.set_n, St.up_n, List.length_cons, List.length_nil]; omega)) only [go_sem, Nat.reduceAdd, Nat.reduceMul, Nat.reduceSub, Int.reduceAdd, Int.reduceMul, Int.reduceSub, Int.reduceNeg, Int.reduceToNat, q25], by simp -implicitDefEqProofs (disch := first | omega | (simp only [St.set_n, St.up_n, List.length_cons, List.length_nil]; omega)) only [go_sem, Nat.reduceAdd, Nat.reduceMul, Nat.reduceSub, Int.reduceAdd, Int.reduceMul, Int.reduceSub, Int.reduceNeg, Int.reduceToNat]; rfl⟩ ⟨by simp -implicitDefEqProofs (disch := first | omega | (simp only [St.set_n, St.up_n, List.length_cons, List.length_nil]; omega)) only [go_sem, Nat.reduceAdd, Nat.reduceMul, Nat.reduceSub, Int.reduceAdd, Int.reduceMul, Int.reduceSub, Int.reduceNeg, Int.reduceToNat, q6]⟩ hM3 hX3
      | true =>
        rw [hfree] at q9
        have hf2 : (!dnB dn i && okB l dn i c (k + 1)) = (decide (k = i) || dnB dn k || !decide (d.to < c.fr)) := by rw [hT, ← Bool.and_assoc, hfree, Bool.true_and]
        by_cases hki : (k : Int) = i
        · obtain rfl : k = i := by omega
          have hf3 : (!dnB dn k && okB l dn k c (k + 1)) = true := by rw [hf2]; simp
          simp -implicitDefEqProofs (disch := first | omega | (simp only [St.set_n, St.up_n, List.length_cons, List.length_nil]; omega)) only [go_sem, Nat.reduceAdd, Nat.reduceMul, Nat.reduceSub, Int.reduceAdd, Int.reduceMul, Int.reduceSub, Int.reduceNeg, Int.reduceToNat, q0, q5, q7, q8, q9, q24, q25, q26, hkl, hdd]
          rw [← hfD]
          exact hnext _ _ ⟨⟨by simp -implicitDefEqProofs (disch := first | omega | (simp only [St.set_n, St.up_n, List.length_cons, List.length_nil]; omega)) only [go_sem, Nat.reduceAdd, Nat.reduceMul, Nat.reduceSub, Int.reduceAdd, Int.reduceMul, Int.reduceSub, Int.reduceNeg, Int.reduceToNat, q0], by simp -implicitDefEqProofs (disch := first | omega | (simp only [St.set_n, St.up_n, List.length_cons, List.length_nil]; omega)) only [go_sem, Nat.reduceAdd, Nat.reduceMul, Nat.reduceSub, Int.reduceAdd, Int.reduceMul, Int.reduceSub, Int.reduceNeg, Int.reduceToNat, q5], by simp -implicitDefEqProofs (disch := first | omega | (simp only [St.set_n, St.up_n, List.length_cons, List.length_nil]; omega)) only [go_sem, Nat.reduceAdd, Nat.reduceMul, Nat.reduceSub, Int.reduceAdd, Int.reduceMul, Int.reduceSub, Int.reduceNeg, Int.reduceToNat, q13], by simp -implicitDefEqProofs (disch := first | omega | (simp only [St.set_n, St.up_n, List.length_cons, List.length_nil]; omega)) only [go_sem, Nat.reduceAdd, Nat.reduceMul, Nat.reduceSub, Int.reduceAdd, Int.reduceMul, Int.reduceSub, Int.reduceNeg, Int.reduceToNat, q14], by simp -implicitDefEqProofs (disch := first | omega | (simp only [St.set_n, St.up_n, List.length_cons, List.length_nil]; omega)) only [go_sem, Nat.reduceAdd, Nat.reduceMul, Nat.reduceSub, Int.reduceAdd, Int.reduceMul, Int.reduceSub, Int.reduceNeg, Int.reduceToNat, q15], by simp -implicitDefEqProofs (disch := first | omega | (simp only [St.set_n, St.up_n, List.length_cons, List.length_nil]; omega)) only [go_sem, Nat.reduceAdd, Nat.reduceMul, Nat.reduceSub, Int.reduceAdd, Int.reduceMul, Int.reduceSub, Int.reduceNeg, Int.reduceToNat, hd]⟩, by simp -implicitDefEqProofs (disch := first | omega | (simp only [St.set_n, St.up_n, List.length_cons, List.length_nil]; omega)) only [go_sem, Nat.reduceAdd, Nat.reduceMul, Nat.reduceSub, Int.reduceAdd, Int.reduceMul, Int.reduceSub, Int.reduceNeg, Int.reduceToNat, q7], by simp -implicitDefEqProofs (disch := first | omega | (simp only [St.set_n, St.up_n, List.length_cons, List.length_nil]; omega)) only [go_sem, Nat.reduceAdd, Nat.reduceMul, Nat.reduceSub, Int.reduceAdd, Int.reduceMul, Int.reduceSub, Int.reduceNeg, Int.reduceToNat, q8], by rw [hf3]; simp -implicitDefEqProofs (disch := first | omega | (simp only [St.set_n, St.up_n, List.length_cons, List.length_nil]; omega)) only [go_sem, Nat.reduceAdd, Nat.reduceMul, Nat.reduceSub, Int.reduceAdd, Int.reduceMul, Int.reduceSub, Int.reduceNeg, Int.reduceToNat], by simp -implicitDefEqProofs (disch := first | omega | (simp only [St.set_n, St.up_n, List.length_cons, List.length_nil]; omega)) only [go_sem, Nat.reduceAdd, Nat.reduceMul, Nat.reduceSub, Int.reduceAdd, Int.reduceMul, Int.reduceSub, Int.reduceNeg, Int.reduceToNat, q24], by simp -implicitDefEqProofs (disch := first | omega | (simp only [St.set_n, St.up_n, List.length_cons, List.length_nil]; omega)) only [go_sem, Nat.reduceAdd, Nat.reduceMul, Nat.reduceSub, Int.reduceAdd, Int.reduceMul, Int.reduceSub, Int.reduceNeg, Int.reduceToNat, q25], by simp -implicitDefEqProofs (disch := first | omega | (simp only [St.set_n, St.up_n, List.length_cons, List.length_nil]; omega)) only [go_sem, Nat.reduceAdd, Nat.reduceMul, Nat.reduceSub, Int.reduceAdd, Int.reduceMul, Int.reduceSub, Int.reduceNeg, Int.reduceToNat]; rfl⟩ ⟨by simp -implicitDefEqProofs (disch := first | omega | (simp only [St.set_n, St.up_n, List.length_cons, List.length_nil]; omega)) only [go_sem, Nat.reduceAdd, Nat.reduceMul, Nat.reduceSub, Int.reduceAdd, Int.reduceMul, Int.reduceSub, Int.reduceNeg, Int.reduceToNat, q6]⟩ hM3 hX3
        · have hki' : ¬ k = i := by omega
          have hx8' := hx8
          rw [hfC] at hx8'
          simp -implicitDefEqProofs (disch := first | omega | (simp only [St.set_n, St.up_n, List.length_cons, List.length_nil]; omega)) only [go_sem, Nat.reduceAdd, Nat.reduceMul, Nat.reduceSub, Int.reduceAdd, Int.reduceMul, Int.reduceSub, Int.reduceNeg, Int.reduceToNat, q0, q5, q7, q8, q9, q24, q25, q26, hkl, hdd, hki]
          refine callF_of (done_is (i := k) hM3.bx hM3.dn ?_)
          cases hdnk : dnB dn k with
          | true =>
            have hf3 : (!dnB dn i && okB l dn i c (k + 1)) = true := by rw [hf2, hdnk]; simp
            simp -implicitDefEqProofs (disch := first | omega | (simp only [St.set_n, St.up_n, List.length_cons, List.length_nil]; omega)) only [go_sem, Nat.reduceAdd, Nat.reduceMul, Nat.reduceSub, Int.reduceAdd, Int.reduceMul, Int.reduceSub, Int.reduceNeg, Int.reduceToNat, q26]
            rw [← hfD]
            exact hnext _ _ ⟨⟨by simp -implicitDefEqProofs (disch := first | omega | (simp only [St.set_n, St.up_n, List.length_cons, List.length_nil]; omega)) only [go_sem, Nat.reduceAdd, Nat.reduceMul, Nat.reduceSub, Int.reduceAdd, Int.reduceMul, Int.reduceSub, Int.reduceNeg, Int.reduceToNat, q0], by simp -implicitDefEqProofs (disch := first | omega | (simp only [St.set_n, St.up_n, List.length_cons, List.length_nil]; omega)) only [go_sem, Nat.reduceAdd, Nat.reduceMul, Nat.reduceSub, Int.reduceAdd, Int.reduceMul, Int.reduceSub, Int.reduceNeg, Int.reduceToNat, q5], by simp -implicitDefEqProofs (disch := first | omega | (simp only [St.set_n, St.up_n, List.length_cons, List.length_nil]; omega)) only [go_sem, Nat.reduceAdd, Nat.reduceMul, Nat.reduceSub, Int.reduceAdd, Int.reduceMul, Int.reduceSub, Int.reduceNeg, Int.reduceToNat, q13], by simp -implicitDefEqProofs (disch := first | omega | (simp only [St.set_n, St.up_n, List.length_cons, List.length_nil]; omega)) only [go_sem, Nat.reduceAdd, Nat.reduceMul, Nat.reduceSub, Int.reduceAdd, Int.reduceMul, Int.reduceSub, Int.reduceNeg, Int.reduceToNat, q14], by simp -implicitDefEqProofs (disch := first | omega | (simp only [St.set_n, St.up_n, List.length_cons, List.length_nil]; omega)) only [go_sem, Nat.reduceAdd, Nat.reduceMul, Nat.reduceSub, Int.reduceAdd, Int.reduceMul, Int.reduceSub, Int.reduceNeg, Int.reduceToNat, q15], by simp -implicitDefEqProofs (disch := first | omega | (simp only [St.set_n, St.up_n, List.length_cons, List.length_nil]; omega)) only [go_sem, Nat.reduceAdd, Nat.reduceMul, Nat.reduceSub, Int.reduceAdd, Int.reduceMul, Int.reduceSub, Int.reduceNeg, Int.reduceToNat, hd]⟩, by simp -implicitDefEqProofs (disch := first | omega | (simp only [St.set_n, St.up_n, List.length_cons, List.length_nil]; omega)) only [go_sem, Nat.reduceAdd, Nat.reduceMul, Nat.reduceSub, Int.reduceAdd, Int.reduceMul, Int.reduceSub, Int.reduceNeg, Int.reduceToNat, q7], by simp -implicitDefEqProofs (disch := first | omega | (simp only [St.set_n, St.up_n, List.length_cons, List.length_nil]; omega)) only [go_sem, Nat.reduceAdd, Nat.reduceMul, Nat.reduceSub, Int.reduceAdd, Int.reduceMul, Int.reduceSub, Int.reduceNeg, Int.reduceToNat, q8], by rw [hf3]; simp -implicitDefEqProofs (disch := first | omega | (simp only [St.set_n, St.up_n, List.length_cons, List.length_nil]; omega)) only [go_sem, Nat.reduceAdd, Nat.reduceMul, Nat.reduceSub, Int.reduceAdd, Int.reduceMul, Int.reduceSub, Int.reduceNeg, Int.reduceToNat], by simp -implicitDefEqProofs (disch := first | omega | (simp only [St.set_n, St.up_n, List.length_cons, List.length_nil]; omega)) only [go_sem, Nat.reduceAdd, Nat.reduceMul, Nat.reduceSub, Int.reduceAdd, Int.reduceMul, Int.reduceSub, Int.reduceNeg, Int.reduceToNat, q24], by simp -implicitDefEqProofs (disch := first | omega | (simp only [St.set_n, St.up_n, List.length_cons, List.length_nil]; omega)) only [go_sem, Nat.reduceAdd, Nat.reduceMul, Nat.reduceSub, Int.reduceAdd, Int.reduceMul, Int.reduceSub, Int.reduceNeg, Int.reduceToNat, q25], by simp -implicitDefEqProofs (disch := first | omega | (simp only [St.set_n, St.up_n, List.length_cons, List.length_nil]; omega)) only [go_sem, Nat.reduceAdd, Nat.reduceMul, Nat.reduceSub, Int.reduceAdd, Int.reduceMul, Int.reduceSub, Int.reduceNeg, Int.reduceToNat]; rfl⟩ ⟨by simp -implicitDefEqProofs (disch := first | omega | (simp only [St.set_n, St.up_n, List.length_cons, List.length_nil]; omega)) only [go_sem, Nat.reduceAdd, Nat.reduceMul, Nat.reduceSub, Int.reduceAdd, Int.reduceMul, Int.reduceSub, Int.reduceNeg, Int.reduceToNat, q6]⟩ hM3 hX3
          | false =>
            simp -implicitDefEqProofs (disch := first | omega | (simp only [St.set_n, St.up_n, List.length_cons, List.length_nil]; omega)) only [go_sem, Nat.reduceAdd, Nat.reduceMul, Nat.reduceSub, Int.reduceAdd, Int.reduceMul, Int.reduceSub, Int.reduceNeg, Int.reduceToNat, q8, hx8']
            refine callF_of (hist_ahead (a := d) (b := c) fun k4 hk4 => ?_)
            have hf3 : (!dnB dn i && okB l dn i c (k + 1)) = !decide (d.to < c.fr) := by rw [hf2, hdnk]; simp [hki']
            simp -implicitDefEqProofs (disch := first | omega | (simp only [St.set_n, St.up_n, List.length_cons, List.length_nil]; omega)) only [go_sem, Nat.reduceAdd, Nat.reduceMul, Nat.reduceSub, Int.reduceAdd, Int.reduceMul, Int.reduceSub, Int.reduceNeg, Int.reduceToNat, q26]
            rw [← hfD]
            exact hnext _ _ ⟨⟨by simp -implicitDefEqProofs (disch := first | omega | (simp only [St.set_n, St.up_n, List.length_cons, List.length_nil]; omega)) only [go_sem, Nat.reduceAdd, Nat.reduceMul, Nat.reduceSub, Int.reduceAdd, Int.reduceMul, Int.reduceSub, Int.reduceNeg, Int.reduceToNat, q0], by simp -implicitDefEqProofs (disch := first | omega | (simp only [St.set_n, St.up_n, List.length_cons, List.length_nil]; omega)) only [go_sem, Nat.reduceAdd, Nat.reduceMul, Nat.reduceSub, Int.reduceAdd, Int.reduceMul, Int.reduceSub, Int.reduceNeg, Int.reduceToNat, q5], by simp -implicitDefEqProofs (disch := first | omega | (simp only [St.set_n, St.up_n, List.length_cons, List.length_nil]; omega)) only [go_sem, Nat.reduceAdd, Nat.reduceMul, Nat.reduceSub, Int.reduceAdd, Int.reduceMul, Int.reduceSub, Int.reduceNeg, Int.reduceToNat, q13], by simp -implicitDefEqProofs (disch := first | omega | (simp only [St.set_n, St.up_n, List.length_cons, List.length_nil]; omega)) only [go_sem, Nat.reduceAdd, Nat.reduceMul, Nat.reduceSub, Int.reduceAdd, Int.reduceMul, Int.reduceSub, Int.reduceNeg, Int.reduceToNat, q14], by simp -implicitDefEqProofs (disch := first | omega | (simp only [St.set_n, St.up_n, List.length_cons, List.length_nil]; omega)) only [go_sem, Nat.reduceAdd, Nat.reduceMul, Nat.reduceSub, Int.reduceAdd, Int.reduceMul, Int.reduceSub, Int.reduceNeg, Int.reduceToNat, q15], by simp -implicitDefEqProofs (disch := first | omega | (simp only [St.set_n, St.up_n, List.length_cons, List.length_nil]; omega)) only [go_sem, Nat.reduceAdd, Nat.reduceMul, Nat.reduceSub, Int.reduceAdd, Int.reduceMul, Int.reduceSub, Int.reduceNeg, Int.reduceToNat, hd]⟩, by simp -implicitDefEqProofs (disch := first | omega | (simp only [St.set_n, St.up_n, List.length_cons, List.length_nil]; omega)) only [go_sem, Nat.reduceAdd, Nat.reduceMul, Nat.reduceSub, Int.reduceAdd, Int.reduceMul, Int.reduceSub, Int.reduceNeg, Int.reduceToNat, q7], by simp -implicitDefEqProofs (disch := first | omega | (simp only [St.set_n, St.up_n, List.length_cons, List.length_nil]; omega)) only [go_sem, Nat.reduceAdd, Nat.reduceMul, Nat.reduceSub, Int.reduceAdd, Int.reduceMul, Int.reduceSub, Int.reduceNeg, Int.reduceToNat, q8], by rw [hf3]; simp -implicitDefEqProofs (disch := first | omega | (simp only [St.set_n, St.up_n, List.length_cons, List.length_nil]; omega)) only [go_sem, Nat.reduceAdd, Nat.reduceMul, Nat.reduceSub, Int.reduceAdd, Int.reduceMul, Int.reduceSub, Int.reduceNeg, Int.reduceToNat], by simp -implicitDefEqProofs (disch := first | omega | (simp only [St.set_n, St.up_n, List.length_cons, List.length_nil]; omega)) only [go_sem, Nat.reduceAdd, Nat.reduceMul, Nat.reduceSub, Int.reduceAdd, Int.reduceMul, Int.reduceSub, Int.reduceNeg, Int.reduceToNat, q24], by simp -implicitDefEqProofs (disch := first | omega | (simp only [St.set_n, St.up_n, List.length_cons, List.length_nil]; omega)) only [go_sem, Nat.reduceAdd, Nat.reduceMul, Nat.reduceSub, Int.reduceAdd, Int.reduceMul, Int.reduceSub, Int.reduceNeg, Int.reduceToNat, q25], by simp -implicitDefEqProofs (disch := first | omega | (simp only [St.set_n, St.up_n, List.length_cons, List.length_nil]; omega)) only [go_sem, Nat.reduceAdd, Nat.reduceMul, Nat.reduceSub, Int.reduceAdd, Int.reduceMul, Int.reduceSub, Int.reduceNeg, Int.reduceToNat, q26]; rfl⟩ ⟨by simp -implicitDefEqProofs (disch := first | omega | (simp only [St.set_n, St.up_n, List.length_cons, List.length_nil]; omega)) only [go_sem, Nat.reduceAdd, Nat.reduceMul, Nat.reduceSub, Int.reduceAdd, Int.reduceMul, Int.reduceSub, Int.reduceNeg, Int.reduceToNat, q6]⟩ (hM3.more (s1 := (s2.set s2.n (.raw (.cells (fC d).toArray 65 (0, 0)))).up k4) (fun c x hx => hx) (fun c hc => rfl) hk4) ⟨hX3.bx⟩
    · have hkl2 : k = l.length := by omega
      subst hkl2
      have hfr : frB l dn i = (!dnB dn i && okB l dn i c l.length) := by simp only [frB, hci]
      have hos := outs_succ l dn i
      cases hfree : (!dnB dn i && okB l dn i c l.length) with
      | false =>
        rw [hfree] at q9 hfr
        rw [hfr] at hos
        simp only [Bool.false_eq_true, if_false] at hos
        simp -implicitDefEqProofs (disch := first | omega | (simp only [St.set_n, St.up_n, List.length_cons, List.length_nil]; omega)) only [go_sem, Nat.reduceAdd, Nat.reduceMul, Nat.reduceSub, Int.reduceAdd, Int.reduceMul, Int.reduceSub, Int.reduceNeg, Int.reduceToNat, q25, q26, hkl, q9, q15]
        exact ⟨l.length - (i + 1), by omega, i + 1, ov, rfl, by omega, ⟨by simp -implicitDefEqProofs (disch := first | omega | (simp only [St.set_n, St.up_n, List.length_cons, List.length_nil]; omega)) only [go_sem, Nat.reduceAdd, Nat.reduceMul, Nat.reduceSub, Int.reduceAdd, Int.reduceMul, Int.reduceSub, Int.reduceNeg, Int.reduceToNat, q0], by simp -implicitDefEqProofs (disch := first | omega | (simp only [St.set_n, St.up_n, List.length_cons, List.length_nil]; omega)) only [go_sem, Nat.reduceAdd, Nat.reduceMul, Nat.reduceSub, Int.reduceAdd, Int.reduceMul, Int.reduceSub, Int.reduceNeg, Int.reduceToNat, q5], by simp -implicitDefEqProofs (disch := first | omega | (simp only [St.set_n, St.up_n, List.length_cons, List.length_nil]; omega)) only [go_sem, Nat.reduceAdd, Nat.reduceMul, Nat.reduceSub, Int.reduceAdd, Int.reduceMul, Int.reduceSub, Int.reduceNeg, Int.reduceToNat, q13], by simp -implicitDefEqProofs (disch := first | omega | (simp only [St.set_n, St.up_n, List.length_cons, List.length_nil]; omega)) only [go_sem, Nat.reduceAdd, Nat.reduceMul, Nat.reduceSub, Int.reduceAdd, Int.reduceMul, Int.reduceSub, Int.reduceNeg, Int.reduceToNat, q14], by simp -implicitDefEqProofs (disch := first | omega | (simp only [St.set_n, St.up_n, List.length_cons, List.length_nil]; omega)) only [go_sem, Nat.reduceAdd, Nat.reduceMul, Nat.reduceSub, Int.reduceAdd, Int.reduceMul, Int.reduceSub, Int.reduceNeg, Int.reduceToNat]; rfl, by simp -implicitDefEqProofs (disch := first | omega | (simp only [St.set_n, St.up_n, List.length_cons, List.length_nil]; omega)) only [go_sem, Nat.reduceAdd, Nat.reduceMul, Nat.reduceSub, Int.reduceAdd, Int.reduceMul, Int.reduceSub, Int.reduceNeg, Int.reduceToNat, hd]⟩, ⟨by simp -implicitDefEqProofs (disch := first | omega | (simp only [St.set_n, St.up_n, List.length_cons, List.length_nil]; omega)) only [go_sem, Nat.reduceAdd, Nat.reduceMul, Nat.reduceSub, Int.reduceAdd, Int.reduceMul, Int.reduceSub, Int.reduceNeg, Int.reduceToNat, q6]⟩, by rw [hos]; exact hM2⟩
      | true =>
        rw [hfree] at q9 hfr
        rw [hfr] at hos
        simp only [if_true] at hos
        have hol := outs_len l dn i
        obtain ⟨Ao, co, rfl, _⟩ := hM2.ow.is
        simp -implicitDefEqProofs (disch := first | omega | (simp only [St.set_n, St.up_n, List.length_cons, List.length_nil]; omega)) only [go_sem, Nat.reduceAdd, Nat.reduceMul, Nat.reduceSub, Int.reduceAdd, Int.reduceMul, Int.reduceSub, Int.reduceNeg, Int.reduceToNat, q25, q26, hkl, q9, q15, q6, q7]
        refine appF_eq hws2 hM2.ow se28 kd28 zr3 rfl (by omega) (ys := [.int .i64 i]) rfl rfl (by omega) fun A' C' s4 hC' o1 heq hb1 hn4 => ?_
        have hsn := (hws2.2 _ _ hx8).2
        have hMn2 := hM2.n
        simp -implicitDefEqProofs (disch := first | omega | (simp only [St.set_n, St.up_n, List.length_cons, List.length_nil]; omega)) only [go_sem, Nat.reduceAdd, Nat.reduceMul, Nat.reduceSub, Int.reduceAdd, Int.reduceMul, Int.reduceSub, Int.reduceNeg, Int.reduceToNat, q15]
        have hlo : (outs l dn (i + 1)).length = (outs l dn i).length + 1 := by rw [hos]; simp
        have hio : ints (outs l dn (i + 1)) = ints (outs l dn i) ++ [.int .i64 i] := by rw [hos, ints_append]; rfl
        have hoff : ∀ c, c ≤ σ.n → blk (.slice Ao (outs l dn i).length co) ≠ some c := fun c hc e => by have := hM2.nb c e; omega
        refine ⟨l.length - (i + 1), by omega, i + 1, .slice A' ((outs l dn i).length + 1) C', rfl, by omega, ⟨by simp -implicitDefEqProofs (disch := first | omega | (simp only [St.set_n, St.up_n, List.length_cons, List.length_nil]; omega)) only [go_sem, Nat.reduceAdd, Nat.reduceMul, Nat.reduceSub, Int.reduceAdd, Int.reduceMul, Int.reduceSub, Int.reduceNeg, Int.reduceToNat, q0], by simp -implicitDefEqProofs (disch := first | omega | (simp only [St.set_n, St.up_n, List.length_cons, List.length_nil]; omega)) only [go_sem, Nat.reduceAdd, Nat.reduceMul, Nat.reduceSub, Int.reduceAdd, Int.reduceMul, Int.reduceSub, Int.reduceNeg, Int.reduceToNat, q5], by simp -implicitDefEqProofs (disch := first | omega | (simp only [St.set_n, St.up_n, List.length_cons, List.length_nil]; omega)) only [go_sem, Nat.reduceAdd, Nat.reduceMul, Nat.reduceSub, Int.reduceAdd, Int.reduceMul, Int.reduceSub, Int.reduceNeg, Int.reduceToNat, q13], by simp -implicitDefEqProofs (disch := first | omega | (simp only [St.set_n, St.up_n, List.length_cons, List.length_nil]; omega)) only [go_sem, Nat.reduceAdd, Nat.reduceMul, Nat.reduceSub, Int.reduceAdd, Int.reduceMul, Int.reduceSub, Int.reduceNeg, Int.reduceToNat, q14], by simp -implicitDefEqProofs (disch := first | omega | (simp only [St.set_n, St.up_n, List.length_cons, List.length_nil]; omega)) only [go_sem, Nat.reduceAdd, Nat.reduceMul, Nat.reduceSub, Int.reduceAdd, Int.reduceMul, Int.reduceSub, Int.reduceNeg, Int.reduceToNat]; rfl, by simp -implicitDefEqProofs (disch := first | omega | (simp only [St.set_n, St.up_n, List.length_cons, List.length_nil]; omega)) only [go_sem, Nat.reduceAdd, Nat.reduceMul, Nat.reduceSub, Int.reduceAdd, Int.reduceMul, Int.reduceSub, Int.reduceNeg, Int.reduceToNat, hd]⟩, ⟨by simp -implicitDefEqProofs (disch := first | omega | (simp only [St.set_n, St.up_n, List.length_cons, List.length_nil]; omega)) only [go_sem, Nat.reduceAdd, Nat.reduceMul, Nat.reduceSub, Int.reduceAdd, Int.reduceMul, Int.reduceSub, Int.reduceNeg, Int.reduceToNat]⟩, ⟨?_, hM2.dn.keepR fun b' o' hb1 ho' => ?_, by rw [hlo, hio]; exact o1, fun b' hb' => ?_, fun c hc => ?_, by omega⟩⟩
        · rw [heq _ (by omega) (hoff _ (Nat.le_refl _))]; exact hM2.bx
        · obtain ⟨o2, ho2⟩ := hdn.at_ hb1
          have hbn := (hwf.2 _ _ ho2).2
          rw [heq _ (by omega) (hoff _ (by omega))]; exact ho'
        · rcases hb1 b' hb' with h | h
          · omega
          · exact hM2.nb b' h
        · rw [heq _ (by omega) (hoff _ (by omega))]; exact hM2.old c hc
  · simp -implicitDefEqProofs (disch := first | omega | (simp only [St.set_n, St.up_n, List.length_cons, List.length_nil]; omega)) only [go_sem, Nat.reduceAdd, Nat.reduceMul, Nat.reduceSub, Int.reduceAdd, Int.reduceMul, Int.reduceSub, Int.reduceNeg, Int.reduceToNat, q14, q15, hlt, q6, hd]
    have hil : i = l.length := by omega
    subst hil
    exact (hK _ _ hM.ow hM.old (fun b hb => by have := hM.nb b hb; omega) (by have := hM.n; omega))
end
end Go.Proofs.Ytgcojbgkenndhaa
