/- Histories: the document's minimal calls: a walk. -/
import Derived.Test.YtgcojbgkenndhaaHistM
namespace Go.Proofs.Ytgcojbgkenndhaa
set_option pp.deepTerms false
set_option pp.deepTerms.threshold 8
set_option linter.unusedSimpArgs false
set_option linter.unusedVariables false
set_option maxRecDepth 100000
open Go Go.RowKit
section
variable {B : World} {σ τ : St} {K : Value → St → Prop}
/-- 'copy(d, x)', where there is room for all. -/
def cpS (P : Program) (B : World) (σ : St) (t : TypeId) (dv xv : Value) (K : Value → St → Prop) : Prop :=
  ∃ a dLen cap el s b n ys σ', dv = .slice (some a) dLen cap ∧ se P t = some (el, s, b) ∧ fc B σ s xv = some (n, ys) ∧ n ≤ dLen ∧ wrs σ a ys = some σ' ∧ K (.int .i64 n) σ'
theorem opS_copy {P : Program} {d : Option Tmp} {pos : String} {af : Array Edge} {ty t xt : TypeId} {a x : Operand} {e : Fr} {K : Fr → St → Prop} (h : cpS P B σ t (ev e a) (ev e x) fun v σ' => K (e.put d v) σ') :
    opS P B ⟨d, .call ⟨.builtin .copy, #[a, x], #[t, xt]⟩, ty, pos, af, none⟩ K e σ := by
  show OpK P B (.call ⟨.builtin .copy, #[a, x], #[t, xt]⟩) ty (ev e) σ fun v σ' => K (e.put d v) σ'
  intro w hw
  obtain ⟨ad, dLen, cap, el, s, b, n, ys, σ', hdv, hse, hfc, hn, hwr, hK⟩ := h
  obtain ⟨i, hu, hi, rfl, rfl⟩ := se_spec hse
  obtain ⟨hlen, hnew⟩ := run_fc (P := P) hw hfc
  obtain ⟨w', hw', hr⟩ := run_wrs (P := P) hw hwr
  have hmin : Nat.min n dLen = n := Nat.min_eq_left hn
  have : (execOp (ev e) { dst := none, op := .call ⟨.builtin .copy, #[a, x], #[t, xt]⟩, type := ty, pos := "", after := #[], guard := none }).run P w = .ok (.value (.int .i64 n)) w' := by
    simp only [execOp, resolve, List.map_toArray, List.map_cons, List.map_nil, Sem.run_bind, Sem.run_pure, Result.andThen_ok, invoke]
    simp [builtin, Builtin.copy_, run_und hu, hdv, hlen, hmin, run_sz hi, hnew, hw']
    rfl
  rw [this]
  exact ⟨_, hr, hK⟩
theorem zc_bools' (n : Nat) : zc (.bool false) n = (bools (List.replicate n false)).toArray := by
  have hl : (zc (.bool false) n).size = n := by simp [zc, zcells]
  apply Array.ext
  · rw [hl]; simp [bools]
  · intro i h1 h2
    simp [zc, zcells, bools, Value.cells, Array.getElem_map, Nat.mod_one]
def padB (dn : List Bool) (n : Nat) : List Bool := dn ++ List.replicate (n - dn.length) false
theorem padB_len {dn : List Bool} {n : Nat} (h : dn.length ≤ n) : (padB dn n).length = n := by simp [padB]; omega
theorem padB_get {dn : List Bool} {n i : Nat} (h : dn.length ≤ n) (hi : i < n) : (padB dn n)[i]? = some (dnB dn i) := by
  unfold padB dnB
  rcases Nat.lt_or_ge i dn.length with h1 | h1
  · rw [List.getElem?_append_left h1, List.getD_eq_getElem?_getD, List.getElem?_eq_getElem h1]; rfl
  · rw [List.getElem?_append_right h1, List.getElem?_replicate, if_pos (by omega), List.getD_eq_getElem?_getD, List.getElem?_eq_none h1]; rfl
theorem wr_bools {s : St} {b n : Nat} {dn : List Bool} (hb : s.m b = some (.raw (.cells (bools (List.replicate n false)).toArray 4 (0, 0)))) (hd : dn.length ≤ n) : wrs s ⟨b, 0, none⟩ (bools dn) = some (s.set b (.raw (.cells (bools (padB dn n)).toArray 4 (0, 0)))) := by
  have h1 := wrl_list (bools dn) [] (bools (List.replicate n false)) (by simp [bools]; exact hd)
  simp only [List.nil_append, List.length_nil] at h1
  have h2 : (bools dn).all Value.oneCell' = true := by simp [bools, Value.oneCell']
  rw [wrs_eq, hb, wrK_raw, if_pos ⟨by simp [bools]; exact hd, h2⟩, h1]
  simp [padB, bools, List.map_append, List.map_replicate, List.drop_replicate]
structure RmI (A : Option Addr) (n c i : Nat) (al ov : Value) (e : Fr) : Prop where
  v0 : e.v 0 = .slice A n c
  v5 : e.v 5 = al
  v6 : e.v 6 = ov
  v7 : e.v 7 = .int .i64 i
  d : e.d = []
structure RmS (σ : St) (al : Value) (xs : List Bool) (o : List Int) (ov : Value) (s : St) : Prop where
  oa : Own s 4 1 (bools xs) xs.length al
  ow : Own s 3 1 (ints o) o.length ov
  nb : ∀ b, blk ov = some b → σ.n ≤ b ∧ blk al ≠ some b
  na : ∀ b, blk al = some b → σ.n ≤ b
  old : ∀ c, c < σ.n → s.m c = σ.m c
  n : σ.n ≤ s.n
structure EqSt (s s' : St) : Prop where
  eq : s' = s
structure RmJ (k : Nat) (free : Bool) (e : Fr) : Prop where
  v8 : e.v 8 = .bool free
  v9 : e.v 9 = .int .i64 k
set_option maxHeartbeats 8000000 in
theorem ref_minimal {l : List Cl} {dn : List Bool} {v dv : Value} (hl : l.length ≤ 100000) (hdl : dn.length ≤ l.length) (ho : Sq B σ l v) (hdn : Own σ 4 1 (bools dn) dn.length dv)
    (hK : ∀ v' s, Own s 3 1 (ints (outs l dn l.length)) (outs l dn l.length).length v' → (∀ c, c < σ.n → s.m c = σ.m c) → (∀ b, blk v' = some b → σ.n ≤ b) → σ.n ≤ s.n → K v' s) : Fn Try.prog B 41 #[v, dv] σ K := by
  obtain ⟨A, cap, rfl, hc, ho⟩ := ho
  refine Fn.of is41 (by simp) fun hwf => ?_
  simp only [b41, Try.f41, Option.getD_some]
  simp -implicitDefEqProofs (disch := first | omega | (simp only [St.set_n, St.up_n, List.length_cons, List.length_nil]; omega)) only [go_sem, Nat.reduceAdd, Nat.reduceMul, Nat.reduceSub, Int.reduceAdd, Int.reduceMul, Int.reduceSub, Int.reduceNeg, Int.reduceToNat]
  rw [zc_bools']
  refine opS_copy ?_
  simp -implicitDefEqProofs (disch := first | omega | (simp only [St.set_n, St.up_n, List.length_cons, List.length_nil]; omega)) only [go_sem, Nat.reduceAdd, Nat.reduceMul, Nat.reduceSub, Int.reduceAdd, Int.reduceMul, Int.reduceSub, Int.reduceNeg, Int.reduceToNat]
  have hm1 : ((σ.set σ.n (.raw (.cells (bools (List.replicate l.length false)).toArray 4 (0, 0)))).up (σ.n + 1)).m σ.n = some (.raw (.cells (bools (List.replicate l.length false)).toArray 4 (0, 0))) := by simp -implicitDefEqProofs (disch := first | omega | (simp only [St.set_n, St.up_n, List.length_cons, List.length_nil]; omega)) only [go_sem, Nat.reduceAdd, Nat.reduceMul, Nat.reduceSub, Int.reduceAdd, Int.reduceMul, Int.reduceSub, Int.reduceNeg, Int.reduceToNat]
  have hdn1 : Own ((σ.set σ.n (.raw (.cells (bools (List.replicate l.length false)).toArray 4 (0, 0)))).up (σ.n + 1)) 4 1 (bools dn) dn.length dv := hdn.keepR fun b o _ hb => by
    have := (hwf.2 _ _ hb).2
    simp -implicitDefEqProofs (disch := first | omega | (simp only [St.set_n, St.up_n, List.length_cons, List.length_nil]; omega)) only [go_sem, Nat.reduceAdd, Nat.reduceMul, Nat.reduceSub, Int.reduceAdd, Int.reduceMul, Int.reduceSub, Int.reduceNeg, Int.reduceToNat, hb]
  refine ⟨⟨σ.n, 0, none⟩, _, _, 4, 1, 1, dn.length, bools dn, _, rfl, se27, hdn1.fc, hdl, wr_bools hm1 hdl, ?_⟩
  have hpl := padB_len hdl
  have hM0 : RmS σ (.slice (some ⟨σ.n, 0, none⟩) l.length l.length) (padB dn l.length) [] (.slice none 0 0) (((σ.set σ.n (.raw (.cells (bools (List.replicate l.length false)).toArray 4 (0, 0)))).up (σ.n + 1)).set σ.n (.raw (.cells (bools (padB dn l.length)).toArray 4 (0, 0)))) := by
    refine ⟨?_, Own.nil, fun b hb => (by cases hb), fun b hb => ?_, fun c hc => by simp -implicitDefEqProofs (disch := first | omega | (simp only [St.set_n, St.up_n, List.length_cons, List.length_nil]; omega)) only [go_sem, Nat.reduceAdd, Nat.reduceMul, Nat.reduceSub, Int.reduceAdd, Int.reduceMul, Int.reduceSub, Int.reduceNeg, Int.reduceToNat], by simp -implicitDefEqProofs (disch := first | omega | (simp only [St.set_n, St.up_n, List.length_cons, List.length_nil]; omega)) only [go_sem, Nat.reduceAdd, Nat.reduceMul, Nat.reduceSub, Int.reduceAdd, Int.reduceMul, Int.reduceSub, Int.reduceNeg, Int.reduceToNat]; omega⟩
    · rw [hpl]
      exact Own.of' (sp := []) (by simp -implicitDefEqProofs (disch := first | omega | (simp only [St.set_n, St.up_n, List.length_cons, List.length_nil]; omega)) only [go_sem, Nat.reduceAdd, Nat.reduceMul, Nat.reduceSub, Int.reduceAdd, Int.reduceMul, Int.reduceSub, Int.reduceNeg, Int.reduceToNat]) (by rw [bools_len, hpl]; omega) (Nat.le_refl _) (by rw [List.append_nil, bools_len, hpl]; omega)
    · simp only [blk, Option.some.injEq] at hb; omega
  have hw0 : (((σ.set σ.n (.raw (.cells (bools (List.replicate l.length false)).toArray 4 (0, 0)))).up (σ.n + 1)).set σ.n (.raw (.cells (bools (padB dn l.length)).toArray 4 (0, 0)))).wf B := by
    have := hwf.1
    refine ⟨by simp only [St.set_n, St.up_n]; omega, fun d x hx => ?_⟩
    simp only [St.up_m, St.set, St.up_n] at hx ⊢
    split at hx
    · omega
    · have := hwf.2 _ _ hx; omega
  generalize (((σ.set σ.n (.raw (.cells (bools (List.replicate l.length false)).toArray 4 (0, 0)))).up (σ.n + 1)).set σ.n (.raw (.cells (bools (padB dn l.length)).toArray 4 (0, 0)))) = s0 at hM0 hw0 ⊢
  refine loop_rule (fun m e s => ∃ (i : Nat) (ov : Value), m = l.length - i ∧ i ≤ l.length ∧ RmI A l.length cap i (.slice (some ⟨σ.n, 0, none⟩) l.length l.length) ov e ∧ RmS σ (.slice (some ⟨σ.n, 0, none⟩) l.length l.length) (padB dn l.length) (outs l dn i) ov s) l.length ?_ ?_
  · exact ⟨0, .slice none 0 0, by omega, by omega, ⟨by simp -implicitDefEqProofs (disch := first | omega | (simp only [St.set_n, St.up_n, List.length_cons, List.length_nil]; omega)) only [go_sem, Nat.reduceAdd, Nat.reduceMul, Nat.reduceSub, Int.reduceAdd, Int.reduceMul, Int.reduceSub, Int.reduceNeg, Int.reduceToNat], by simp -implicitDefEqProofs (disch := first | omega | (simp only [St.set_n, St.up_n, List.length_cons, List.length_nil]; omega)) only [go_sem, Nat.reduceAdd, Nat.reduceMul, Nat.reduceSub, Int.reduceAdd, Int.reduceMul, Int.reduceSub, Int.reduceNeg, Int.reduceToNat], by simp -implicitDefEqProofs (disch := first | omega | (simp only [St.set_n, St.up_n, List.length_cons, List.length_nil]; omega)) only [go_sem, Nat.reduceAdd, Nat.reduceMul, Nat.reduceSub, Int.reduceAdd, Int.reduceMul, Int.reduceSub, Int.reduceNeg, Int.reduceToNat], by simp -implicitDefEqProofs (disch := first | omega | (simp only [St.set_n, St.up_n, List.length_cons, List.length_nil]; omega)) only [go_sem, Nat.reduceAdd, Nat.reduceMul, Nat.reduceSub, Int.reduceAdd, Int.reduceMul, Int.reduceSub, Int.reduceNeg, Int.reduceToNat]; rfl, by simp -implicitDefEqProofs (disch := first | omega | (simp only [St.set_n, St.up_n, List.length_cons, List.length_nil]; omega)) only [go_sem, Nat.reduceAdd, Nat.reduceMul, Nat.reduceSub, Int.reduceAdd, Int.reduceMul, Int.reduceSub, Int.reduceNeg, Int.reduceToNat]⟩, hM0⟩
  clear hM0 hw0
  rintro m e s hws ⟨i, ov, hm, hi, ⟨q0, q5, q6, q7, hd⟩, hM⟩
  by_cases hlt : (i : Int) < l.length
  · obtain ⟨c, hci⟩ : ∃ x, l[i]? = some x := ⟨l[i]'(by omega), List.getElem?_eq_getElem (by omega)⟩
    obtain ⟨b, o, rfl, hb, hcell⟩ := ho i c hci
    have hcell' := hcell
    rw [← hM.old b hb] at hcell'
    have hcc := sq_cells hcell'
    have hoa := hM.oa
    rw [hpl] at hoa
    obtain ⟨ba, ca, spa, ea, _, ma, _, _⟩ := hoa.has (by omega)
    simp only [Value.slice.injEq, Option.some.injEq, Addr.mk.injEq, and_true, true_and] at ea
    obtain ⟨rfl, rfl⟩ := ea
    have gi := bools_get (padB_get hdl (i := i) (by omega)) spa
    simp -implicitDefEqProofs (disch := first | omega | (simp only [St.set_n, St.up_n, List.length_cons, List.length_nil]; omega)) only [go_sem, Nat.reduceAdd, Nat.reduceMul, Nat.reduceSub, Int.reduceAdd, Int.reduceMul, Int.reduceSub, Int.reduceNeg, Int.reduceToNat, q0, q5, q7, hlt, ma, gi]
    refine loop_rule (fun m e s2 => ∃ k : Nat, m = l.length - k ∧ k ≤ l.length ∧ RmI (some ⟨b, o, none⟩) l.length cap i (.slice (some ⟨σ.n, 0, none⟩) l.length l.length) ov e ∧ RmJ k (!dnB dn i && okB l dn i c k) e ∧ EqSt s s2) l.length ?_ ?_
    · exact ⟨0, by omega, by omega, ⟨by simp -implicitDefEqProofs (disch := first | omega | (simp only [St.set_n, St.up_n, List.length_cons, List.length_nil]; omega)) only [go_sem, Nat.reduceAdd, Nat.reduceMul, Nat.reduceSub, Int.reduceAdd, Int.reduceMul, Int.reduceSub, Int.reduceNeg, Int.reduceToNat, q0], by simp -implicitDefEqProofs (disch := first | omega | (simp only [St.set_n, St.up_n, List.length_cons, List.length_nil]; omega)) only [go_sem, Nat.reduceAdd, Nat.reduceMul, Nat.reduceSub, Int.reduceAdd, Int.reduceMul, Int.reduceSub, Int.reduceNeg, Int.reduceToNat, q5], by simp -implicitDefEqProofs (disch := first | omega | (simp only [St.set_n, St.up_n, List.length_cons, List.length_nil]; omega)) only [go_sem, Nat.reduceAdd, Nat.reduceMul, Nat.reduceSub, Int.reduceAdd, Int.reduceMul, Int.reduceSub, Int.reduceNeg, Int.reduceToNat, q6], by simp -implicitDefEqProofs (disch := first | omega | (simp only [St.set_n, St.up_n, List.length_cons, List.length_nil]; omega)) only [go_sem, Nat.reduceAdd, Nat.reduceMul, Nat.reduceSub, Int.reduceAdd, Int.reduceMul, Int.reduceSub, Int.reduceNeg, Int.reduceToNat, q7], by simp -implicitDefEqProofs (disch := first | omega | (simp only [St.set_n, St.up_n, List.length_cons, List.length_nil]; omega)) only [go_sem, Nat.reduceAdd, Nat.reduceMul, Nat.reduceSub, Int.reduceAdd, Int.reduceMul, Int.reduceSub, Int.reduceNeg, Int.reduceToNat, hd]⟩, ⟨by rw [okB_zero]; simp -implicitDefEqProofs (disch := first | omega | (simp only [St.set_n, St.up_n, List.length_cons, List.length_nil]; omega)) only [go_sem, Nat.reduceAdd, Nat.reduceMul, Nat.reduceSub, Int.reduceAdd, Int.reduceMul, Int.reduceSub, Int.reduceNeg, Int.reduceToNat], by simp -implicitDefEqProofs (disch := first | omega | (simp only [St.set_n, St.up_n, List.length_cons, List.length_nil]; omega)) only [go_sem, Nat.reduceAdd, Nat.reduceMul, Nat.reduceSub, Int.reduceAdd, Int.reduceMul, Int.reduceSub, Int.reduceNeg, Int.reduceToNat]; rfl⟩, ⟨rfl⟩⟩
    clear q0 q5 q6 q7 hd
    rintro m e s2 hws2 ⟨k, hm', hk, ⟨q0, q5, q6, q7, hd⟩, ⟨q8, q9⟩, ⟨rfl⟩⟩
    by_cases hkl : (k : Int) < l.length
    · obtain ⟨d, hdk⟩ : ∃ x, l[k]? = some x := ⟨l[k]'(by omega), List.getElem?_eq_getElem (by omega)⟩
      obtain ⟨_, _, e0, _, hdcell⟩ := ho k d hdk
      cases e0
      rw [← hM.old b hb] at hdcell
      have hdd := sq_cells hdcell
      have gk := bools_get (padB_get hdl (i := k) (by omega)) spa
      have hT : okB l dn i c (k + 1) = (okB l dn i c k && (decide (k = i) || dnB dn k || !decide (d.to < c.fr))) := by rw [okB_succ]; simp only [okT, hdk]
      have hnext : ∀ (e' : Fr), RmI (some ⟨b, o, none⟩) l.length cap i (.slice (some ⟨σ.n, 0, none⟩) l.length l.length) ov e' → RmJ (k + 1) (!dnB dn i && okB l dn i c (k + 1)) e' →
          ∃ m', m' < m ∧ ∃ k : Nat, m' = l.length - k ∧ k ≤ l.length ∧ RmI (some ⟨b, o, none⟩) l.length cap i (.slice (some ⟨σ.n, 0, none⟩) l.length l.length) ov e' ∧ RmJ k (!dnB dn i && okB l dn i c k) e' ∧ EqSt s2 s2 :=
        fun e' h1 h2 => ⟨l.length - (k + 1), by omega, k + 1, rfl, by omega, h1, h2, ⟨rfl⟩⟩
      by_cases hki : (k : Int) = i
      · obtain rfl : k = i := by omega
        have hf2 : (!dnB dn k && okB l dn k c (k + 1)) = (!dnB dn k && okB l dn k c k) := by rw [hT]; simp
        simp -implicitDefEqProofs (disch := first | omega | (simp only [St.set_n, St.up_n, List.length_cons, List.length_nil]; omega)) only [go_sem, Nat.reduceAdd, Nat.reduceMul, Nat.reduceSub, Int.reduceAdd, Int.reduceMul, Int.reduceSub, Int.reduceNeg, Int.reduceToNat, q0, q5, q7, q8, q9, hlt, ma, gi]
        exact hnext _ ⟨by simp -implicitDefEqProofs (disch := first | omega | (simp only [St.set_n, St.up_n, List.length_cons, List.length_nil]; omega)) only [go_sem, Nat.reduceAdd, Nat.reduceMul, Nat.reduceSub, Int.reduceAdd, Int.reduceMul, Int.reduceSub, Int.reduceNeg, Int.reduceToNat, q0], by simp -implicitDefEqProofs (disch := first | omega | (simp only [St.set_n, St.up_n, List.length_cons, List.length_nil]; omega)) only [go_sem, Nat.reduceAdd, Nat.reduceMul, Nat.reduceSub, Int.reduceAdd, Int.reduceMul, Int.reduceSub, Int.reduceNeg, Int.reduceToNat, q5], by simp -implicitDefEqProofs (disch := first | omega | (simp only [St.set_n, St.up_n, List.length_cons, List.length_nil]; omega)) only [go_sem, Nat.reduceAdd, Nat.reduceMul, Nat.reduceSub, Int.reduceAdd, Int.reduceMul, Int.reduceSub, Int.reduceNeg, Int.reduceToNat, q6], by simp -implicitDefEqProofs (disch := first | omega | (simp only [St.set_n, St.up_n, List.length_cons, List.length_nil]; omega)) only [go_sem, Nat.reduceAdd, Nat.reduceMul, Nat.reduceSub, Int.reduceAdd, Int.reduceMul, Int.reduceSub, Int.reduceNeg, Int.reduceToNat, q7], by simp -implicitDefEqProofs (disch := first | omega | (simp only [St.set_n, St.up_n, List.length_cons, List.length_nil]; omega)) only [go_sem, Nat.reduceAdd, Nat.reduceMul, Nat.reduceSub, Int.reduceAdd, Int.reduceMul, Int.reduceSub, Int.reduceNeg, Int.reduceToNat, hd]⟩ ⟨by rw [hf2]; simp -implicitDefEqProofs (disch := first | omega | (simp only [St.set_n, St.up_n, List.length_cons, List.length_nil]; omega)) only [go_sem, Nat.reduceAdd, Nat.reduceMul, Nat.reduceSub, Int.reduceAdd, Int.reduceMul, Int.reduceSub, Int.reduceNeg, Int.reduceToNat, q8], by simp -implicitDefEqProofs (disch := first | omega | (simp only [St.set_n, St.up_n, List.length_cons, List.length_nil]; omega)) only [go_sem, Nat.reduceAdd, Nat.reduceMul, Nat.reduceSub, Int.reduceAdd, Int.reduceMul, Int.reduceSub, Int.reduceNeg, Int.reduceToNat]; rfl⟩
      · have hki' : ¬ k = i := by omega
        cases hdk' : dnB dn k with
        | true =>
          rw [hdk'] at gk
          have hf2 : (!dnB dn i && okB l dn i c (k + 1)) = (!dnB dn i && okB l dn i c k) := by rw [hT, hdk']; simp
          simp -implicitDefEqProofs (disch := first | omega | (simp only [St.set_n, St.up_n, List.length_cons, List.length_nil]; omega)) only [go_sem, Nat.reduceAdd, Nat.reduceMul, Nat.reduceSub, Int.reduceAdd, Int.reduceMul, Int.reduceSub, Int.reduceNeg, Int.reduceToNat, q0, q5, q7, q8, q9, hlt, hkl, hki, ma, gk]
          exact hnext _ ⟨by simp -implicitDefEqProofs (disch := first | omega | (simp only [St.set_n, St.up_n, List.length_cons, List.length_nil]; omega)) only [go_sem, Nat.reduceAdd, Nat.reduceMul, Nat.reduceSub, Int.reduceAdd, Int.reduceMul, Int.reduceSub, Int.reduceNeg, Int.reduceToNat, q0], by simp -implicitDefEqProofs (disch := first | omega | (simp only [St.set_n, St.up_n, List.length_cons, List.length_nil]; omega)) only [go_sem, Nat.reduceAdd, Nat.reduceMul, Nat.reduceSub, Int.reduceAdd, Int.reduceMul, Int.reduceSub, Int.reduceNeg, Int.reduceToNat, q5], by simp -implicitDefEqProofs (disch := first | omega | (simp only [St.set_n, St.up_n, List.length_cons, List.length_nil]; omega)) only [go_sem, Nat.reduceAdd, Nat.reduceMul, Nat.reduceSub, Int.reduceAdd, Int.reduceMul, Int.reduceSub, Int.reduceNeg, Int.reduceToNat, q6], by simp -implicitDefEqProofs (disch := first | omega | (simp only [St.set_n, St.up_n, List.length_cons, List.length_nil]; omega)) only [go_sem, Nat.reduceAdd, Nat.reduceMul, Nat.reduceSub, Int.reduceAdd, Int.reduceMul, Int.reduceSub, Int.reduceNeg, Int.reduceToNat, q7], by simp -implicitDefEqProofs (disch := first | omega | (simp only [St.set_n, St.up_n, List.length_cons, List.length_nil]; omega)) only [go_sem, Nat.reduceAdd, Nat.reduceMul, Nat.reduceSub, Int.reduceAdd, Int.reduceMul, Int.reduceSub, Int.reduceNeg, Int.reduceToNat, hd]⟩ ⟨by rw [hf2]; simp -implicitDefEqProofs (disch := first | omega | (simp only [St.set_n, St.up_n, List.length_cons, List.length_nil]; omega)) only [go_sem, Nat.reduceAdd, Nat.reduceMul, Nat.reduceSub, Int.reduceAdd, Int.reduceMul, Int.reduceSub, Int.reduceNeg, Int.reduceToNat, q8], by simp -implicitDefEqProofs (disch := first | omega | (simp only [St.set_n, St.up_n, List.length_cons, List.length_nil]; omega)) only [go_sem, Nat.reduceAdd, Nat.reduceMul, Nat.reduceSub, Int.reduceAdd, Int.reduceMul, Int.reduceSub, Int.reduceNeg, Int.reduceToNat]; rfl⟩
        | false =>
          rw [hdk'] at gk
          by_cases hah : d.to < c.fr
          · have hf2 : (!dnB dn i && okB l dn i c (k + 1)) = false := by rw [hT, hdk']; simp [hki', hah]
            simp -implicitDefEqProofs (disch := first | omega | (simp only [St.set_n, St.up_n, List.length_cons, List.length_nil]; omega)) only [go_sem, Nat.reduceAdd, Nat.reduceMul, Nat.reduceSub, Int.reduceAdd, Int.reduceMul, Int.reduceSub, Int.reduceNeg, Int.reduceToNat, q0, q5, q7, q8, q9, hlt, hkl, hki, ma, gk, hcc, hdd, hah]
            exact hnext _ ⟨by simp -implicitDefEqProofs (disch := first | omega | (simp only [St.set_n, St.up_n, List.length_cons, List.length_nil]; omega)) only [go_sem, Nat.reduceAdd, Nat.reduceMul, Nat.reduceSub, Int.reduceAdd, Int.reduceMul, Int.reduceSub, Int.reduceNeg, Int.reduceToNat, q0], by simp -implicitDefEqProofs (disch := first | omega | (simp only [St.set_n, St.up_n, List.length_cons, List.length_nil]; omega)) only [go_sem, Nat.reduceAdd, Nat.reduceMul, Nat.reduceSub, Int.reduceAdd, Int.reduceMul, Int.reduceSub, Int.reduceNeg, Int.reduceToNat, q5], by simp -implicitDefEqProofs (disch := first | omega | (simp only [St.set_n, St.up_n, List.length_cons, List.length_nil]; omega)) only [go_sem, Nat.reduceAdd, Nat.reduceMul, Nat.reduceSub, Int.reduceAdd, Int.reduceMul, Int.reduceSub, Int.reduceNeg, Int.reduceToNat, q6], by simp -implicitDefEqProofs (disch := first | omega | (simp only [St.set_n, St.up_n, List.length_cons, List.length_nil]; omega)) only [go_sem, Nat.reduceAdd, Nat.reduceMul, Nat.reduceSub, Int.reduceAdd, Int.reduceMul, Int.reduceSub, Int.reduceNeg, Int.reduceToNat, q7], by simp -implicitDefEqProofs (disch := first | omega | (simp only [St.set_n, St.up_n, List.length_cons, List.length_nil]; omega)) only [go_sem, Nat.reduceAdd, Nat.reduceMul, Nat.reduceSub, Int.reduceAdd, Int.reduceMul, Int.reduceSub, Int.reduceNeg, Int.reduceToNat, hd]⟩ ⟨by rw [hf2]; simp -implicitDefEqProofs (disch := first | omega | (simp only [St.set_n, St.up_n, List.length_cons, List.length_nil]; omega)) only [go_sem, Nat.reduceAdd, Nat.reduceMul, Nat.reduceSub, Int.reduceAdd, Int.reduceMul, Int.reduceSub, Int.reduceNeg, Int.reduceToNat], by simp -implicitDefEqProofs (disch := first | omega | (simp only [St.set_n, St.up_n, List.length_cons, List.length_nil]; omega)) only [go_sem, Nat.reduceAdd, Nat.reduceMul, Nat.reduceSub, Int.reduceAdd, Int.reduceMul, Int.reduceSub, Int.reduceNeg, Int.reduceToNat]; rfl⟩
          · have hf2 : (!dnB dn i && okB l dn i c (k + 1)) = (!dnB dn i && okB l dn i c k) := by rw [hT, hdk']; simp [hki', hah]
            simp -implicitDefEqProofs (disch := first | omega | (simp only [St.set_n, St.up_n, List.length_cons, List.length_nil]; omega)) only [go_sem, Nat.reduceAdd, Nat.reduceMul, Nat.reduceSub, Int.reduceAdd, Int.reduceMul, Int.reduceSub, Int.reduceNeg, Int.reduceToNat, q0, q5, q7, q8, q9, hlt, hkl, hki, ma, gk, hcc, hdd, hah]
            exact hnext _ ⟨by simp -implicitDefEqProofs (disch := first | omega | (simp only [St.set_n, St.up_n, List.length_cons, List.length_nil]; omega)) only [go_sem, Nat.reduceAdd, Nat.reduceMul, Nat.reduceSub, Int.reduceAdd, Int.reduceMul, Int.reduceSub, Int.reduceNeg, Int.reduceToNat, q0], by simp -implicitDefEqProofs (disch := first | omega | (simp only [St.set_n, St.up_n, List.length_cons, List.length_nil]; omega)) only [go_sem, Nat.reduceAdd, Nat.reduceMul, Nat.reduceSub, Int.reduceAdd, Int.reduceMul, Int.reduceSub, Int.reduceNeg, Int.reduceToNat, q5], by simp -implicitDefEqProofs (disch := first | omega | (simp only [St.set_n, St.up_n, List.length_cons, List.length_nil]; omega)) only [go_sem, Nat.reduceAdd, Nat.reduceMul, Nat.reduceSub, Int.reduceAdd, Int.reduceMul, Int.reduceSub, Int.reduceNeg, Int.reduceToNat, q6], by simp -implicitDefEqProofs (disch := first | omega | (simp only [St.set_n, St.up_n, List.length_cons, List.length_nil]; omega)) only [go_sem, Nat.reduceAdd, Nat.reduceMul, Nat.reduceSub, Int.reduceAdd, Int.reduceMul, Int.reduceSub, Int.reduceNeg, Int.reduceToNat, q7], by simp -implicitDefEqProofs (disch := first | omega | (simp only [St.set_n, St.up_n, List.length_cons, List.length_nil]; omega)) only [go_sem, Nat.reduceAdd, Nat.reduceMul, Nat.reduceSub, Int.reduceAdd, Int.reduceMul, Int.reduceSub, Int.reduceNeg, Int.reduceToNat, hd]⟩ ⟨by rw [hf2]; simp -implicitDefEqProofs (disch := first | omega | (simp only [St.set_n, St.up_n, List.length_cons, List.length_nil]; omega)) only [go_sem, Nat.reduceAdd, Nat.reduceMul, Nat.reduceSub, Int.reduceAdd, Int.reduceMul, Int.reduceSub, Int.reduceNeg, Int.reduceToNat, q8], by simp -implicitDefEqProofs (disch := first | omega | (simp only [St.set_n, St.up_n, List.length_cons, List.length_nil]; omega)) only [go_sem, Nat.reduceAdd, Nat.reduceMul, Nat.reduceSub, Int.reduceAdd, Int.reduceMul, Int.reduceSub, Int.reduceNeg, Int.reduceToNat]; rfl⟩
    · have hkl2 : k = l.length := by omega
      subst hkl2
      have hfr : frB l dn i = (!dnB dn i && okB l dn i c l.length) := by simp only [frB, hci]
      have hos := outs_succ l dn i
      cases hfree : (!dnB dn i && okB l dn i c l.length) with
      | false =>
        rw [hfree] at q8 hfr
        rw [hfr] at hos
        simp only [Bool.false_eq_true, if_false] at hos
        simp -implicitDefEqProofs (disch := first | omega | (simp only [St.set_n, St.up_n, List.length_cons, List.length_nil]; omega)) only [go_sem, Nat.reduceAdd, Nat.reduceMul, Nat.reduceSub, Int.reduceAdd, Int.reduceMul, Int.reduceSub, Int.reduceNeg, Int.reduceToNat, q0, q9, hkl, q8, q7]
        exact ⟨l.length - (i + 1), by omega, i + 1, ov, rfl, by omega, ⟨by simp -implicitDefEqProofs (disch := first | omega | (simp only [St.set_n, St.up_n, List.length_cons, List.length_nil]; omega)) only [go_sem, Nat.reduceAdd, Nat.reduceMul, Nat.reduceSub, Int.reduceAdd, Int.reduceMul, Int.reduceSub, Int.reduceNeg, Int.reduceToNat, q0], by simp -implicitDefEqProofs (disch := first | omega | (simp only [St.set_n, St.up_n, List.length_cons, List.length_nil]; omega)) only [go_sem, Nat.reduceAdd, Nat.reduceMul, Nat.reduceSub, Int.reduceAdd, Int.reduceMul, Int.reduceSub, Int.reduceNeg, Int.reduceToNat, q5], by simp -implicitDefEqProofs (disch := first | omega | (simp only [St.set_n, St.up_n, List.length_cons, List.length_nil]; omega)) only [go_sem, Nat.reduceAdd, Nat.reduceMul, Nat.reduceSub, Int.reduceAdd, Int.reduceMul, Int.reduceSub, Int.reduceNeg, Int.reduceToNat, q6], by simp -implicitDefEqProofs (disch := first | omega | (simp only [St.set_n, St.up_n, List.length_cons, List.length_nil]; omega)) only [go_sem, Nat.reduceAdd, Nat.reduceMul, Nat.reduceSub, Int.reduceAdd, Int.reduceMul, Int.reduceSub, Int.reduceNeg, Int.reduceToNat]; rfl, by simp -implicitDefEqProofs (disch := first | omega | (simp only [St.set_n, St.up_n, List.length_cons, List.length_nil]; omega)) only [go_sem, Nat.reduceAdd, Nat.reduceMul, Nat.reduceSub, Int.reduceAdd, Int.reduceMul, Int.reduceSub, Int.reduceNeg, Int.reduceToNat, hd]⟩, by rw [hos]; exact hM⟩
      | true =>
        rw [hfree] at q8 hfr
        rw [hfr] at hos
        simp only [if_true] at hos
        have hol := outs_len l dn i
        obtain ⟨Ao, co, rfl, _⟩ := hM.ow.is
        simp -implicitDefEqProofs (disch := first | omega | (simp only [St.set_n, St.up_n, List.length_cons, List.length_nil]; omega)) only [go_sem, Nat.reduceAdd, Nat.reduceMul, Nat.reduceSub, Int.reduceAdd, Int.reduceMul, Int.reduceSub, Int.reduceNeg, Int.reduceToNat, q0, q9, hkl, q8, q6, q7]
        refine appF_eq hws2 hM.ow se28 kd28 zr3 rfl (by omega) (ys := [.int .i64 i]) rfl rfl (by omega) fun A' C' s4 hC' o1 heq hb1 hn4 => ?_
        have hMn2 := hM.n
        simp -implicitDefEqProofs (disch := first | omega | (simp only [St.set_n, St.up_n, List.length_cons, List.length_nil]; omega)) only [go_sem, Nat.reduceAdd, Nat.reduceMul, Nat.reduceSub, Int.reduceAdd, Int.reduceMul, Int.reduceSub, Int.reduceNeg, Int.reduceToNat, q7]
        have hlo : (outs l dn (i + 1)).length = (outs l dn i).length + 1 := by rw [hos]; simp
        have hio : ints (outs l dn (i + 1)) = ints (outs l dn i) ++ [.int .i64 i] := by rw [hos, ints_append]; rfl
        have hoff : ∀ c, c < σ.n → blk (.slice Ao (outs l dn i).length co) ≠ some c := fun c hc e => by have := (hM.nb c e).1; omega
        refine ⟨l.length - (i + 1), by omega, i + 1, .slice A' ((outs l dn i).length + 1) C', rfl, by omega, ⟨by simp -implicitDefEqProofs (disch := first | omega | (simp only [St.set_n, St.up_n, List.length_cons, List.length_nil]; omega)) only [go_sem, Nat.reduceAdd, Nat.reduceMul, Nat.reduceSub, Int.reduceAdd, Int.reduceMul, Int.reduceSub, Int.reduceNeg, Int.reduceToNat, q0], by simp -implicitDefEqProofs (disch := first | omega | (simp only [St.set_n, St.up_n, List.length_cons, List.length_nil]; omega)) only [go_sem, Nat.reduceAdd, Nat.reduceMul, Nat.reduceSub, Int.reduceAdd, Int.reduceMul, Int.reduceSub, Int.reduceNeg, Int.reduceToNat, q5], by simp -implicitDefEqProofs (disch := first | omega | (simp only [St.set_n, St.up_n, List.length_cons, List.length_nil]; omega)) only [go_sem, Nat.reduceAdd, Nat.reduceMul, Nat.reduceSub, Int.reduceAdd, Int.reduceMul, Int.reduceSub, Int.reduceNeg, Int.reduceToNat], by simp -implicitDefEqProofs (disch := first | omega | (simp only [St.set_n, St.up_n, List.length_cons, List.length_nil]; omega)) only [go_sem, Nat.reduceAdd, Nat.reduceMul, Nat.reduceSub, Int.reduceAdd, Int.reduceMul, Int.reduceSub, Int.reduceNeg, Int.reduceToNat]; rfl, by simp -implicitDefEqProofs (disch := first | omega | (simp only [St.set_n, St.up_n, List.length_cons, List.length_nil]; omega)) only [go_sem, Nat.reduceAdd, Nat.reduceMul, Nat.reduceSub, Int.reduceAdd, Int.reduceMul, Int.reduceSub, Int.reduceNeg, Int.reduceToNat, hd]⟩, ⟨hM.oa.keepR fun b' o' hb1 ho' => ?_, by rw [hlo, hio]; exact o1, fun b' hb' => ?_, hM.na, fun c hc => ?_, by omega⟩⟩
        · have h5 := (hws2.2 _ _ ho').2
          rw [heq _ h5 fun e => (hM.nb b' e).2 hb1]; exact ho'
        · rcases hb1 b' hb' with h | h
          · refine ⟨by omega, fun e => ?_⟩
            obtain ⟨o', ho'⟩ := hM.oa.at_ e
            have := (hws2.2 _ _ ho').2
            omega
          · exact hM.nb b' h
        · rw [heq _ (by omega) (hoff _ hc)]; exact hM.old c hc
  · simp -implicitDefEqProofs (disch := first | omega | (simp only [St.set_n, St.up_n, List.length_cons, List.length_nil]; omega)) only [go_sem, Nat.reduceAdd, Nat.reduceMul, Nat.reduceSub, Int.reduceAdd, Int.reduceMul, Int.reduceSub, Int.reduceNeg, Int.reduceToNat, q0, q7, hlt, q6, hd]
    have hil : i = l.length := by omega
    subst hil
    exact (hK _ _ hM.ow hM.old (fun b hb => (hM.nb b hb).1) hM.n)
end
end Go.Proofs.Ytgcojbgkenndhaa
