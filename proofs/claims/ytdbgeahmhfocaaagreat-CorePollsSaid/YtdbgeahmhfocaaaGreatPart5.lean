/- The texts of this proof, part 5: the engine, the walks and the plain laws, in their order. -/
import Derived.Test.YtdbgeahmhfocaaaGreatPart4
/- Histories: the document's 'Right', by a walk. -/
namespace Go.Proofs.YtdbgeahmhfocaaaGreat
set_option linter.unusedSimpArgs false
set_option linter.unusedVariables false
set_option maxRecDepth 100000
open Go Go.RowKit
section
variable {B : World} {σ τ : St} {K : Value → St → Prop}

/-- A slice from which these calls can be read. -/
def Sq (B : World) (σ : St) (l : List Cl) (v : Value) : Prop :=
  ∃ a cap, v = .slice a l.length cap ∧ l.length ≤ cap ∧ ∀ (i : Nat) (c : Cl), l[i]? = some c → ∃ b o, a = some ⟨b, o, none⟩ ∧ b < σ.n ∧ ∀ (j : Nat) (x : Value), (fC c)[j]? = some x → rdK B b (o + i * 15 + j) (σ.m b) = some x
theorem Own.sq {l : List Cl} {v : Value} (h : Own σ 69 15 (flat fC l) l.length v) (hwf : σ.wf B) : Sq B σ l v := by
  obtain ⟨a, cap, rfl, hc⟩ := h.is
  refine ⟨a, cap, rfl, hc, fun i c hi => ?_⟩
  have hil := (List.getElem?_eq_some_iff.1 hi).1
  obtain ⟨b, c1, sp, e, _, hm, _⟩ := h.has (by omega)
  cases e
  refine ⟨b, 0, rfl, (hwf.2 _ _ hm).2, fun j x hj => ?_⟩
  rw [hm, rdK_raw, List.getElem?_toArray, Nat.zero_add]
  exact flat_get fC_len l sp i c j x hi hj
theorem Sq.keep {l : List Cl} {v : Value} (h : Sq B σ l v) (hk : ∀ b, blk v = some b → b < σ.n → τ.m b = σ.m b) (hn : σ.n ≤ τ.n) : Sq B τ l v := by
  obtain ⟨a, cap, rfl, hc, h⟩ := h
  refine ⟨a, cap, rfl, hc, fun i c hi => ?_⟩
  obtain ⟨b, o, rfl, hb, h⟩ := h i c hi
  exact ⟨b, o, rfl, by omega, fun j x hj => by rw [hk b rfl hb]; exact h j x hj⟩
theorem sq_cells {b o i : Nat} {c : Cl} (h : ∀ (j : Nat) (x : Value), (fC c)[j]? = some x → rdK B b (o + i * 15 + j) (σ.m b) = some x) : rdK B b (o + i * 15) (σ.m b) = some (.int .i64 c.th) ∧ rdK B b (o + i * 15 + 1) (σ.m b) = some (.int .i64 c.pl) ∧ rdK B b (o + i * 15 + 2) (σ.m b) = some (.int .i64 c.op.kind) ∧ rdK B b (o + i * 15 + 3) (σ.m b) = some (.int .i64 c.op.sub) ∧ rdK B b (o + i * 15 + 4) (σ.m b) = some (.string c.op.text) ∧ rdK B b (o + i * 15 + 5) (σ.m b) = some (.string c.op.pay) ∧ rdK B b (o + i * 15 + 6) (σ.m b) = some (.bool c.op.keep) ∧ rdK B b (o + i * 15 + 7) (σ.m b) = some (.int .i64 c.an.err) ∧ rdK B b (o + i * 15 + 8) (σ.m b) = some (.int .i64 c.an.a) ∧ rdK B b (o + i * 15 + 9) (σ.m b) = some (.int .i64 c.an.b) ∧ rdK B b (o + i * 15 + 10) (σ.m b) = some (.string c.an.topic) ∧ rdK B b (o + i * 15 + 11) (σ.m b) = some (.string c.an.pay) ∧ rdK B b (o + i * 15 + 12) (σ.m b) = some (.bool c.an.kept) ∧ rdK B b (o + i * 15 + 13) (σ.m b) = some (.int .i64 c.fr) ∧ rdK B b (o + i * 15 + 14) (σ.m b) = some (.int .i64 c.to) :=
  ⟨h 0 _ rfl, h 1 _ rfl, h 2 _ rfl, h 3 _ rfl, h 4 _ rfl, h 5 _ rfl, h 6 _ rfl, h 7 _ rfl, h 8 _ rfl, h 9 _ rfl, h 10 _ rfl, h 11 _ rfl, h 12 _ rfl, h 13 _ rfl, h 14 _ rfl⟩
end
section
variable {B : World} {σ τ : St} {K : Value → St → Prop}
structure QI (A : Option Addr) (n cap i : Nat) (e : Fr) : Prop where
  v0 : e.v 0 = .slice A n cap
  v3 : e.v 3 = .int .i64 i
  d : e.d = []
structure QJ (A : Option Addr) (n cap i k pl : Nat) (e : Fr) : Prop where
  v0 : e.v 0 = .slice A n cap
  v3 : e.v 3 = .int .i64 i
  v4 : e.v 4 = .int .i64 pl
  v5 : e.v 5 = .int .i64 k
  d : e.d = []
structure QH (l : List Cl) (c : Cl) (k : Nat) : Prop where
  h : ∀ (j : Nat) (d : Cl), j < k → l[j]? = some d → d.to ≠ c.to ∧ d.to ≠ c.fr ∧ d.fr ≠ c.to ∧ (d.th = c.th → d.to < c.fr)
set_option maxHeartbeats 8000000 in
open Classical in
theorem ref_right {l : List Cl} {v : Value} (hl : l.length ≤ 100000) (ho : Sq B σ l v) (hK : K (.bool (decide (Rt l))) σ) : Fn Tryz.prog B 47 #[v] σ K := by
  obtain ⟨A, cap, rfl, hc, ho⟩ := ho
  refine Fn.of is47 (by simp) fun hwf => ?_
  simp only [b47, Tryz.f47, Option.getD_some]
  simp -implicitDefEqProofs (disch := first | omega | (simp only [St.set_n, St.up_n, List.length_cons, List.length_nil]; omega)) only [go_sem, Nat.reduceAdd, Nat.reduceMul, Nat.reduceSub, Int.reduceAdd, Int.reduceMul, Int.reduceSub, Int.reduceNeg, Int.reduceToNat]
  refine loop_rule (fun m e s => ∃ i : Nat, m = l.length - i ∧ i ≤ l.length ∧ QI A l.length cap i e ∧ RtTo l i ∧ s = σ) l.length ?_ ?_
  · exact ⟨0, by omega, by omega, ⟨by simp -implicitDefEqProofs (disch := first | omega | (simp only [St.set_n, St.up_n, List.length_cons, List.length_nil]; omega)) only [go_sem, Nat.reduceAdd, Nat.reduceMul, Nat.reduceSub, Int.reduceAdd, Int.reduceMul, Int.reduceSub, Int.reduceNeg, Int.reduceToNat], by simp -implicitDefEqProofs (disch := first | omega | (simp only [St.set_n, St.up_n, List.length_cons, List.length_nil]; omega)) only [go_sem, Nat.reduceAdd, Nat.reduceMul, Nat.reduceSub, Int.reduceAdd, Int.reduceMul, Int.reduceSub, Int.reduceNeg, Int.reduceToNat]; rfl, by simp -implicitDefEqProofs (disch := first | omega | (simp only [St.set_n, St.up_n, List.length_cons, List.length_nil]; omega)) only [go_sem, Nat.reduceAdd, Nat.reduceMul, Nat.reduceSub, Int.reduceAdd, Int.reduceMul, Int.reduceSub, Int.reduceNeg, Int.reduceToNat]⟩, RtTo.zero, rfl⟩
  rintro m e s hws ⟨i, hm, hi, ⟨q0, q3, hd⟩, hrt, rfl⟩
  by_cases hlt : (i : Int) < l.length
  · obtain ⟨c, hci⟩ : ∃ x, l[i]? = some x := ⟨l[i]'(by omega), List.getElem?_eq_getElem (by omega)⟩
    obtain ⟨b, o, rfl, hb, hcell⟩ := ho i c hci
    have hcc := sq_cells hcell
    have no : ¬ OkC l i c → K (.bool false) s := fun h => by
      have := hK
      rwa [decide_eq_false (not_rt hci h)] at this
    by_cases f1 : c.fr < 1
    · simp -implicitDefEqProofs (disch := first | omega | (simp only [St.set_n, St.up_n, List.length_cons, List.length_nil]; omega)) only [go_sem, Nat.reduceAdd, Nat.reduceMul, Nat.reduceSub, Int.reduceAdd, Int.reduceMul, Int.reduceSub, Int.reduceNeg, Int.reduceToNat, q0, q3, hlt, hcc, f1, hd]
      exact no fun h => by have := h.f1; omega
    by_cases f2 : c.to ≤ c.fr
    · simp -implicitDefEqProofs (disch := first | omega | (simp only [St.set_n, St.up_n, List.length_cons, List.length_nil]; omega)) only [go_sem, Nat.reduceAdd, Nat.reduceMul, Nat.reduceSub, Int.reduceAdd, Int.reduceMul, Int.reduceSub, Int.reduceNeg, Int.reduceToNat, q0, q3, hlt, hcc, f1, f2, hd]
      exact no fun h => by have := h.f2; omega
    by_cases f5 : ∃ d, 0 < i ∧ l[i - 1]? = some d ∧ c.fr ≤ d.fr
    · obtain ⟨d, hi0, hdi, hle⟩ := f5
      obtain ⟨_, _, e0, _, hdcell⟩ := ho (i - 1) d hdi
      cases e0
      have hdd := sq_cells hdcell
      have e1 : (i : Int) - 1 = ((i - 1 : Nat) : Int) := by omega
      have hi0' : (0 : Int) < i := by omega
      have hi1 : ((i - 1 : Nat) : Int) < l.length := by omega
      simp -implicitDefEqProofs (disch := first | omega | (simp only [St.set_n, St.up_n, List.length_cons, List.length_nil]; omega)) only [go_sem, Nat.reduceAdd, Nat.reduceMul, Nat.reduceSub, Int.reduceAdd, Int.reduceMul, Int.reduceSub, Int.reduceNeg, Int.reduceToNat, q0, q3, hlt, hcc, hdd, f1, f2, hi0', e1, hi1, hle, hd]
      exact no fun h => by have := h.inc d hi0 hdi; omega
    have f5' : ∀ d, 0 < i → l[i - 1]? = some d → d.fr < c.fr := fun d h1 h2 => by
      rcases Int.lt_or_le d.fr c.fr with h | h
      · exact h
      · exact absurd ⟨d, h1, h2, h⟩ f5
    by_cases hi0 : (0 : Int) < i
    case' pos =>
      obtain ⟨d, hdi⟩ : ∃ x, l[i - 1]? = some x := ⟨l[i - 1]'(by omega), List.getElem?_eq_getElem (by omega)⟩
      obtain ⟨_, _, e0, _, hdcell⟩ := ho (i - 1) d hdi
      cases e0
      have hdd := sq_cells hdcell
      have e1 : (i : Int) - 1 = ((i - 1 : Nat) : Int) := by omega
      have hi1 : ((i - 1 : Nat) : Int) < l.length := by omega
      have hle := f5' d (by omega) hdi
      simp -implicitDefEqProofs (disch := first | omega | (simp only [St.set_n, St.up_n, List.length_cons, List.length_nil]; omega)) only [go_sem, Nat.reduceAdd, Nat.reduceMul, Nat.reduceSub, Int.reduceAdd, Int.reduceMul, Int.reduceSub, Int.reduceNeg, Int.reduceToNat, q0, q3, hlt, hcc, hdd, f1, f2, hi0, e1, hi1, hle, hd]
    case' neg =>
      simp -implicitDefEqProofs (disch := first | omega | (simp only [St.set_n, St.up_n, List.length_cons, List.length_nil]; omega)) only [go_sem, Nat.reduceAdd, Nat.reduceMul, Nat.reduceSub, Int.reduceAdd, Int.reduceMul, Int.reduceSub, Int.reduceNeg, Int.reduceToNat, q0, q3, hlt, hcc, f1, f2, hi0, hd]
    all_goals
      refine loop_rule (fun m e s' => ∃ k : Nat, m = i - k ∧ k ≤ i ∧ QJ (some ⟨b, o, none⟩) l.length cap i k (cnt (l.take k) c.th) e ∧ QH l c k ∧ s' = s) i ?_ ?_
      · exact ⟨0, by omega, by omega, ⟨by simp -implicitDefEqProofs (disch := first | omega | (simp only [St.set_n, St.up_n, List.length_cons, List.length_nil]; omega)) only [go_sem, Nat.reduceAdd, Nat.reduceMul, Nat.reduceSub, Int.reduceAdd, Int.reduceMul, Int.reduceSub, Int.reduceNeg, Int.reduceToNat, q0], by simp -implicitDefEqProofs (disch := first | omega | (simp only [St.set_n, St.up_n, List.length_cons, List.length_nil]; omega)) only [go_sem, Nat.reduceAdd, Nat.reduceMul, Nat.reduceSub, Int.reduceAdd, Int.reduceMul, Int.reduceSub, Int.reduceNeg, Int.reduceToNat, q3], by simp -implicitDefEqProofs (disch := first | omega | (simp only [St.set_n, St.up_n, List.length_cons, List.length_nil]; omega)) only [go_sem, Nat.reduceAdd, Nat.reduceMul, Nat.reduceSub, Int.reduceAdd, Int.reduceMul, Int.reduceSub, Int.reduceNeg, Int.reduceToNat]; rfl, by simp -implicitDefEqProofs (disch := first | omega | (simp only [St.set_n, St.up_n, List.length_cons, List.length_nil]; omega)) only [go_sem, Nat.reduceAdd, Nat.reduceMul, Nat.reduceSub, Int.reduceAdd, Int.reduceMul, Int.reduceSub, Int.reduceNeg, Int.reduceToNat]; rfl, by simp -implicitDefEqProofs (disch := first | omega | (simp only [St.set_n, St.up_n, List.length_cons, List.length_nil]; omega)) only [go_sem, Nat.reduceAdd, Nat.reduceMul, Nat.reduceSub, Int.reduceAdd, Int.reduceMul, Int.reduceSub, Int.reduceNeg, Int.reduceToNat, hd]⟩, ⟨fun j d hj => by omega⟩, rfl⟩
      clear q0 q3 hd
      rintro m e s' hws' ⟨k, hm', hk, ⟨q0, q3, q4, q5, hd⟩, ⟨hall⟩, rfl⟩
      have hcl := cnt_le (l.take k) c.th
      rw [List.length_take] at hcl
      by_cases hkl : (k : Int) < i
      · first
        | (exfalso; omega)
        | (obtain ⟨d, hdk⟩ : ∃ x, l[k]? = some x := ⟨l[k]'(by omega), List.getElem?_eq_getElem (by omega)⟩
           obtain ⟨_, _, e0, _, hdcell⟩ := ho k d hdk
           cases e0
           have hdd := sq_cells hdcell
           have hkl' : (k : Int) < l.length := by omega
           by_cases g1 : d.to = c.to
           · simp -implicitDefEqProofs (disch := first | omega | (simp only [St.set_n, St.up_n, List.length_cons, List.length_nil]; omega)) only [go_sem, Nat.reduceAdd, Nat.reduceMul, Nat.reduceSub, Int.reduceAdd, Int.reduceMul, Int.reduceSub, Int.reduceNeg, Int.reduceToNat, q0, q3, q4, q5, hkl, hkl', hlt, hcc, hdd, g1, hd]
             exact no fun h => (h.ne k d (by omega) hdk).1 g1
           have gx : ¬ c.fr = c.to := by omega
           by_cases g2 : d.to = c.fr
           · simp -implicitDefEqProofs (disch := first | omega | (simp only [St.set_n, St.up_n, List.length_cons, List.length_nil]; omega)) only [go_sem, Nat.reduceAdd, Nat.reduceMul, Nat.reduceSub, Int.reduceAdd, Int.reduceMul, Int.reduceSub, Int.reduceNeg, Int.reduceToNat, q0, q3, q4, q5, hkl, hkl', hlt, hcc, hdd, g1, g2, gx, hd]
             exact no fun h => (h.ne k d (by omega) hdk).2.1 g2
           by_cases g3 : d.fr = c.to
           · simp -implicitDefEqProofs (disch := first | omega | (simp only [St.set_n, St.up_n, List.length_cons, List.length_nil]; omega)) only [go_sem, Nat.reduceAdd, Nat.reduceMul, Nat.reduceSub, Int.reduceAdd, Int.reduceMul, Int.reduceSub, Int.reduceNeg, Int.reduceToNat, q0, q3, q4, q5, hkl, hkl', hlt, hcc, hdd, g1, g2, g3, hd]
             exact no fun h => (h.ne k d (by omega) hdk).2.2 g3
           by_cases g4 : d.th = c.th
           · have hdpl := (hrt k d (by omega) hdk).pl
             rw [g4] at hdpl
             by_cases g5 : c.fr ≤ d.to
             · simp -implicitDefEqProofs (disch := first | omega | (simp only [St.set_n, St.up_n, List.length_cons, List.length_nil]; omega)) only [go_sem, Nat.reduceAdd, Nat.reduceMul, Nat.reduceSub, Int.reduceAdd, Int.reduceMul, Int.reduceSub, Int.reduceNeg, Int.reduceToNat, q0, q3, q4, q5, hkl, hkl', hlt, hcc, hdd, g1, g2, g3, g4, g5, hd]
               exact no fun h => by have := h.th k d (by omega) hdk g4; omega
             · simp -implicitDefEqProofs (disch := first | omega | (simp only [St.set_n, St.up_n, List.length_cons, List.length_nil]; omega)) only [go_sem, Nat.reduceAdd, Nat.reduceMul, Nat.reduceSub, Int.reduceAdd, Int.reduceMul, Int.reduceSub, Int.reduceNeg, Int.reduceToNat, q0, q3, q4, q5, hkl, hkl', hlt, hcc, hdd, g1, g2, g3, g4, g5, hdpl, hd]
               refine ⟨i - (k + 1), by omega, k + 1, rfl, by omega, ⟨by simp -implicitDefEqProofs (disch := first | omega | (simp only [St.set_n, St.up_n, List.length_cons, List.length_nil]; omega)) only [go_sem, Nat.reduceAdd, Nat.reduceMul, Nat.reduceSub, Int.reduceAdd, Int.reduceMul, Int.reduceSub, Int.reduceNeg, Int.reduceToNat, q0], by simp -implicitDefEqProofs (disch := first | omega | (simp only [St.set_n, St.up_n, List.length_cons, List.length_nil]; omega)) only [go_sem, Nat.reduceAdd, Nat.reduceMul, Nat.reduceSub, Int.reduceAdd, Int.reduceMul, Int.reduceSub, Int.reduceNeg, Int.reduceToNat, q3], ?_, by simp -implicitDefEqProofs (disch := first | omega | (simp only [St.set_n, St.up_n, List.length_cons, List.length_nil]; omega)) only [go_sem, Nat.reduceAdd, Nat.reduceMul, Nat.reduceSub, Int.reduceAdd, Int.reduceMul, Int.reduceSub, Int.reduceNeg, Int.reduceToNat]; rfl, by simp -implicitDefEqProofs (disch := first | omega | (simp only [St.set_n, St.up_n, List.length_cons, List.length_nil]; omega)) only [go_sem, Nat.reduceAdd, Nat.reduceMul, Nat.reduceSub, Int.reduceAdd, Int.reduceMul, Int.reduceSub, Int.reduceNeg, Int.reduceToNat, hd]⟩, ⟨fun j d' hj hd' => ?_⟩⟩
               · rw [cnt_take_succ hdk, if_pos g4]; simp -implicitDefEqProofs (disch := first | omega | (simp only [St.set_n, St.up_n, List.length_cons, List.length_nil]; omega)) only [go_sem, Nat.reduceAdd, Nat.reduceMul, Nat.reduceSub, Int.reduceAdd, Int.reduceMul, Int.reduceSub, Int.reduceNeg, Int.reduceToNat]; rfl
               · by_cases e : j = k
                 · subst e; rw [hdk] at hd'; cases hd'; exact ⟨g1, g2, g3, fun _ => by omega⟩
                 · exact hall j d' (by omega) hd'
           · simp -implicitDefEqProofs (disch := first | omega | (simp only [St.set_n, St.up_n, List.length_cons, List.length_nil]; omega)) only [go_sem, Nat.reduceAdd, Nat.reduceMul, Nat.reduceSub, Int.reduceAdd, Int.reduceMul, Int.reduceSub, Int.reduceNeg, Int.reduceToNat, q0, q3, q4, q5, hkl, hkl', hlt, hcc, hdd, g1, g2, g3, g4, hd]
             refine ⟨i - (k + 1), by omega, k + 1, rfl, by omega, ⟨by simp -implicitDefEqProofs (disch := first | omega | (simp only [St.set_n, St.up_n, List.length_cons, List.length_nil]; omega)) only [go_sem, Nat.reduceAdd, Nat.reduceMul, Nat.reduceSub, Int.reduceAdd, Int.reduceMul, Int.reduceSub, Int.reduceNeg, Int.reduceToNat, q0], by simp -implicitDefEqProofs (disch := first | omega | (simp only [St.set_n, St.up_n, List.length_cons, List.length_nil]; omega)) only [go_sem, Nat.reduceAdd, Nat.reduceMul, Nat.reduceSub, Int.reduceAdd, Int.reduceMul, Int.reduceSub, Int.reduceNeg, Int.reduceToNat, q3], ?_, by simp -implicitDefEqProofs (disch := first | omega | (simp only [St.set_n, St.up_n, List.length_cons, List.length_nil]; omega)) only [go_sem, Nat.reduceAdd, Nat.reduceMul, Nat.reduceSub, Int.reduceAdd, Int.reduceMul, Int.reduceSub, Int.reduceNeg, Int.reduceToNat]; rfl, by simp -implicitDefEqProofs (disch := first | omega | (simp only [St.set_n, St.up_n, List.length_cons, List.length_nil]; omega)) only [go_sem, Nat.reduceAdd, Nat.reduceMul, Nat.reduceSub, Int.reduceAdd, Int.reduceMul, Int.reduceSub, Int.reduceNeg, Int.reduceToNat, hd]⟩, ⟨fun j d' hj hd' => ?_⟩⟩
             · rw [cnt_take_succ hdk, if_neg g4]; simp -implicitDefEqProofs (disch := first | omega | (simp only [St.set_n, St.up_n, List.length_cons, List.length_nil]; omega)) only [go_sem, Nat.reduceAdd, Nat.reduceMul, Nat.reduceSub, Int.reduceAdd, Int.reduceMul, Int.reduceSub, Int.reduceNeg, Int.reduceToNat, q4]
             · by_cases e : j = k
               · subst e; rw [hdk] at hd'; cases hd'; exact ⟨g1, g2, g3, fun h => absurd h g4⟩
               · exact hall j d' (by omega) hd')
      · have hki : k = i := by omega
        subst hki
        by_cases g6 : c.pl = (cnt (l.take k) c.th : Int)
        · have hok : OkC l k c := ⟨by omega, by omega, f5', fun j d hj hd' => ⟨(hall j d hj hd').1, (hall j d hj hd').2.1, (hall j d hj hd').2.2.1⟩, fun j d hj hd' => (hall j d hj hd').2.2.2, g6⟩
          simp -implicitDefEqProofs (disch := first | omega | (simp only [St.set_n, St.up_n, List.length_cons, List.length_nil]; omega)) only [go_sem, Nat.reduceAdd, Nat.reduceMul, Nat.reduceSub, Int.reduceAdd, Int.reduceMul, Int.reduceSub, Int.reduceNeg, Int.reduceToNat, q0, q3, q4, q5, hkl, hlt, hcc, g6, hd]
          exact ⟨l.length - (k + 1), by omega, k + 1, rfl, by omega, ⟨by simp -implicitDefEqProofs (disch := first | omega | (simp only [St.set_n, St.up_n, List.length_cons, List.length_nil]; omega)) only [go_sem, Nat.reduceAdd, Nat.reduceMul, Nat.reduceSub, Int.reduceAdd, Int.reduceMul, Int.reduceSub, Int.reduceNeg, Int.reduceToNat, q0], by simp -implicitDefEqProofs (disch := first | omega | (simp only [St.set_n, St.up_n, List.length_cons, List.length_nil]; omega)) only [go_sem, Nat.reduceAdd, Nat.reduceMul, Nat.reduceSub, Int.reduceAdd, Int.reduceMul, Int.reduceSub, Int.reduceNeg, Int.reduceToNat]; rfl, by simp -implicitDefEqProofs (disch := first | omega | (simp only [St.set_n, St.up_n, List.length_cons, List.length_nil]; omega)) only [go_sem, Nat.reduceAdd, Nat.reduceMul, Nat.reduceSub, Int.reduceAdd, Int.reduceMul, Int.reduceSub, Int.reduceNeg, Int.reduceToNat, hd]⟩, hrt.succ hci hok⟩
        · simp -implicitDefEqProofs (disch := first | omega | (simp only [St.set_n, St.up_n, List.length_cons, List.length_nil]; omega)) only [go_sem, Nat.reduceAdd, Nat.reduceMul, Nat.reduceSub, Int.reduceAdd, Int.reduceMul, Int.reduceSub, Int.reduceNeg, Int.reduceToNat, q0, q3, q4, q5, hkl, hlt, hcc, g6, hd]
          exact no fun h => g6 h.pl
  · simp -implicitDefEqProofs (disch := first | omega | (simp only [St.set_n, St.up_n, List.length_cons, List.length_nil]; omega)) only [go_sem, Nat.reduceAdd, Nat.reduceMul, Nat.reduceSub, Int.reduceAdd, Int.reduceMul, Int.reduceSub, Int.reduceNeg, Int.reduceToNat, q0, q3, hlt, hd]
    have hil : i = l.length := by omega
    subst hil
    rwa [decide_eq_true hrt.all] at hK
end
end Go.Proofs.YtdbgeahmhfocaaaGreat

/- Histories: what a log takes down of threads that end each call ahead of their next one: plain laws. -/
namespace Go.Proofs.YtdbgeahmhfocaaaGreat
set_option linter.unusedSimpArgs false
set_option linter.unusedVariables false
open Go Go.RowKit

structure Wl (S : LS) : Prop where
  one : ∀ (j : Nat) (c : Cl), S.l[j]? = some c → 1 ≤ c.fr ∧ c.fr ≤ S.now ∧ (c.to ≠ 0 → c.fr < c.to ∧ c.to ≤ S.now) ∧ c.pl = cnt (S.l.take j) c.th
  two : ∀ (k j : Nat) (d c : Cl), k < j → S.l[k]? = some d → S.l[j]? = some c → d.fr < c.fr ∧ (d.to ≠ 0 → d.to ≠ c.to) ∧ d.to ≠ c.fr ∧ d.fr ≠ c.to ∧ (d.th = c.th → d.to ≠ 0 ∧ d.to < c.fr)
def LS.fin4 (S : LS) (j : Nat) (c : Cl) (a : CAn) : LS := ⟨S.l.set j { c with an := a, to := S.now + 1 }, S.now + 1⟩
theorem Wl.nil : Wl ⟨[], 0⟩ := ⟨fun j c h => by simp at h, fun k j d c _ h => by simp at h⟩
theorem Wl.begin {S : LS} (h : Wl S) {t : Int} (op : COp) (hn : S.l.length ≤ S.now) (ht : ∀ (j : Nat) (c : Cl), S.l[j]? = some c → c.th = t → c.to ≠ 0) : Wl (S.begin t op) := by
  have hg : ∀ (j : Nat) (c : Cl), (S.begin t op).l[j]? = some c → (j < S.l.length ∧ S.l[j]? = some c) ∨ (j = S.l.length ∧ c = ⟨t, cnt S.l t, op, an0, S.now + 1, 0⟩) := fun j c hc => by
    simp only [LS.begin] at hc
    rcases Nat.lt_or_ge j S.l.length with h1 | h1
    · rw [List.getElem?_append_left h1] at hc; exact .inl ⟨h1, hc⟩
    · rw [List.getElem?_append_right h1] at hc
      have : j - S.l.length = 0 := by
        rcases Nat.eq_zero_or_pos (j - S.l.length) with h2 | h2
        · exact h2
        · rw [List.getElem?_eq_none (by simp; omega)] at hc; cases hc
      rw [this] at hc
      simp at hc
      exact .inr ⟨by omega, hc.symm⟩
  have hnow : ((S.begin t op).now : Int) = S.now + 1 := rfl
  refine ⟨fun j c hc => ?_, fun k j d c hkj hd hc => ?_⟩
  · rcases hg j c hc with ⟨h1, h2⟩ | ⟨rfl, rfl⟩
    · obtain ⟨a1, a2, a3, a4⟩ := h.one j c h2
      refine ⟨a1, by omega, fun h0 => ?_, ?_⟩
      · obtain ⟨b1, b2⟩ := a3 h0; exact ⟨b1, by omega⟩
      · rw [a4]
        simp only [LS.begin]
        rw [List.take_append_of_le_length (by omega)]
    · refine ⟨by simp only; omega, by simp only; omega, fun h0 => absurd rfl h0, ?_⟩
      simp only [LS.begin]
      rw [List.take_append_of_le_length (Nat.le_refl _), List.take_length]
  · rcases hg j c hc with ⟨h1, h2⟩ | ⟨rfl, rfl⟩
    · rcases hg k d hd with ⟨h3, h4⟩ | ⟨rfl, rfl⟩
      · exact h.two k j d c hkj h4 h2
      · omega
    · rcases hg k d hd with ⟨h3, h4⟩ | ⟨rfl, rfl⟩
      · obtain ⟨a1, a2, a3, a4⟩ := h.one k d h4
        refine ⟨by simp only; omega, fun h0 => h0, ?_, by simp only; omega, fun e => ?_⟩
        · simp only
          by_cases h0 : d.to = 0
          · omega
          · have := a3 h0; omega
        · have h0 := ht k d h4 e
          have := a3 h0
          exact ⟨h0, by simp only; omega⟩
      · omega
theorem Wl.fin4 {S : LS} (h : Wl S) {j : Nat} {c : Cl} (a : CAn) (hc : S.l[j]? = some c) (h0 : c.to = 0) : Wl (S.fin4 j c a) := by
  have hj := (List.getElem?_eq_some_iff.1 hc).1
  have hg : ∀ (k : Nat) (d : Cl), (S.fin4 j c a).l[k]? = some d → (k ≠ j ∧ S.l[k]? = some d) ∨ (k = j ∧ d = { c with an := a, to := S.now + 1 }) := fun k d hd => by
    simp only [LS.fin4] at hd
    by_cases e : k = j
    · subst e
      rw [List.getElem?_set_self hj] at hd
      exact .inr ⟨rfl, (Option.some.inj hd).symm⟩
    · rw [List.getElem?_set_ne (Ne.symm e)] at hd
      exact .inl ⟨e, hd⟩
  have hcnt : ∀ (n : Nat) (t : Int), cnt ((S.fin4 j c a).l.take n) t = cnt (S.l.take n) t := fun n t => by
    simp only [LS.fin4]
    rw [List.take_set]
    by_cases hn : j < n
    · exact cnt_set (c := c) (c' := { c with an := a, to := S.now + 1 }) (by rw [List.getElem?_take_of_lt hn]; exact hc) rfl t
    · rw [List.set_eq_of_length_le (by simp; omega)]
  have hnow : ((S.fin4 j c a).now : Int) = S.now + 1 := rfl
  obtain ⟨e1, e2, e3, e4⟩ := h.one j c hc
  refine ⟨fun k d hd => ?_, fun k i d f hki hd hf => ?_⟩
  · rw [hcnt]
    rcases hg k d hd with ⟨h1, h2⟩ | ⟨rfl, rfl⟩
    · obtain ⟨a1, a2, a3, a4⟩ := h.one k d h2
      refine ⟨a1, by omega, fun h0 => ?_, a4⟩
      obtain ⟨b1, b2⟩ := a3 h0; exact ⟨b1, by omega⟩
    · exact ⟨e1, by simp only; omega, fun _ => ⟨by simp only; omega, by simp only; omega⟩, e4⟩
  · rcases hg k d hd with ⟨h1, h2⟩ | ⟨rfl, rfl⟩
    · rcases hg i f hf with ⟨h3, h4⟩ | ⟨rfl, rfl⟩
      · exact h.two k i d f hki h2 h4
      · obtain ⟨b1, b2, b3, b4, b5⟩ := h.two k i d c hki h2 hc
        obtain ⟨a1, a2, a3, a4⟩ := h.one k d h2
        refine ⟨b1, fun h0 => ?_, b3, by simp only; omega, b5⟩
        have := a3 h0
        simp only; omega
    · rcases hg i f hf with ⟨h3, h4⟩ | ⟨rfl, rfl⟩
      · obtain ⟨b1, b2, b3, b4, b5⟩ := h.two k i c f hki hc h4
        obtain ⟨a1, a2, a3, a4⟩ := h.one i f h4
        refine ⟨b1, fun _ => ?_, by simp only; omega, b4, fun e => ?_⟩
        · simp only
          by_cases hz : f.to = 0
          · omega
          · have := a3 hz; omega
        · exact absurd h0 (b5 e).1
      · omega
theorem Wl.right {S : LS} (h : Wl S) (ha : ∀ (j : Nat) (c : Cl), S.l[j]? = some c → c.to ≠ 0) : Rt S.l := fun i c hc => by
  obtain ⟨a1, a2, a3, a4⟩ := h.one i c hc
  refine ⟨a1, (a3 (ha i c hc)).1, fun d hi hd => (h.two (i - 1) i d c (by omega) hd hc).1, fun k d hk hd => ?_, fun k d hk hd ht => ((h.two k i d c hk hd hc).2.2.2.2 ht).2, a4⟩
  obtain ⟨b1, b2, b3, b4, b5⟩ := h.two k i d c hk hd hc
  exact ⟨b2 (ha k d hd), b3, b4⟩


end Go.Proofs.YtdbgeahmhfocaaaGreat

/- Histories: which calls are minimal, by a walk. -/
namespace Go.Proofs.YtdbgeahmhfocaaaGreat
set_option linter.unusedSimpArgs false
set_option linter.unusedVariables false
set_option maxRecDepth 100000
open Go Go.RowKit
def dnB (dn : List Bool) (i : Nat) : Bool := dn.getD i false
def okT (l : List Cl) (dn : List Bool) (i : Nat) (c : Cl) (k : Nat) : Bool := match l[k]? with | some d => decide (k = i) || dnB dn k || !decide (d.to < c.fr) | none => true
def okM (l : List Cl) (dn : List Bool) (i : Nat) (c : Cl) (n : Nat) : Bool := (List.range n).all (okT l dn i c)
theorem okM_succ (l : List Cl) (dn : List Bool) (i : Nat) (c : Cl) (n : Nat) : okM l dn i c (n + 1) = (okM l dn i c n && okT l dn i c n) := by simp [okM, List.range_succ]
theorem okM_zero (l : List Cl) (dn : List Bool) (i : Nat) (c : Cl) : okM l dn i c 0 = true := rfl
def frB (l : List Cl) (dn : List Bool) (i : Nat) : Bool := match l[i]? with | some c => !dnB dn i && okM l dn i c l.length | none => false
def outs (l : List Cl) (dn : List Bool) (n : Nat) : List Int := ((List.range n).filter (frB l dn)).map fun i : Nat => (i : Int)
theorem outs_succ (l : List Cl) (dn : List Bool) (n : Nat) : outs l dn (n + 1) = if frB l dn n then outs l dn n ++ [(n : Int)] else outs l dn n := by
  unfold outs
  rw [List.range_succ, List.filter_append]
  by_cases h : frB l dn n <;> simp [h]
theorem outs_len (l : List Cl) (dn : List Bool) (n : Nat) : (outs l dn n).length ≤ n := by
  unfold outs
  rw [List.length_map]
  have := List.length_filter_le (frB l dn) (List.range n)
  simpa using this
section
variable {B : World} {σ τ : St} {K : Value → St → Prop}
/-- 'append' of one element to a slice that the frame owns; all else is as it was. -/
theorem appF_eq {P : Program} {s : St} {d : Option Tmp} {K : Fr → St → Prop} {e : Fr} {t xt el : TypeId} {sz bts n c : Nat} {z w : Value} {cs ys : List Value} (hwf : s.wf B) (hw : Own s el sz cs n w) (ht : se P t = some (el, sz, bts)) (hxt : kd P xt = .slice) (hz : zr P el = some z) (hzs : z.cells.size = sz) (hb0 : bts ≠ 0)
    {ty : TypeId} (hyl : ys.length = sz) (hy1 : ys.all Value.oneCell' = true) (hroom : (2 * (n + 1) + 768) * bts ≤ 2 ^ 48)
    (hK : ∀ A C σ', n + 1 ≤ C → Own σ' el sz (cs ++ ys) (n + 1) (.slice A (n + 1) C) → (∀ c, c < s.n → blk w ≠ some c → σ'.m c = s.m c) → (∀ b, blk (.slice A (n + 1) C) = some b → s.n ≤ b ∨ blk w = some b) → s.n ≤ σ'.n → K (e.put d (.slice A (n + 1) C)) σ') :
    appK P B t xt w (.slice (some ⟨s.n, 0, none⟩) 1 c) d K e ((s.set s.n (.raw (.cells ys.toArray ty (0, 0)))).up (s.n + 1)) := by
  have keep : ∀ c x, s.m c = some x → ((s.set s.n (.raw (.cells ys.toArray ty (0, 0)))).up (s.n + 1)).m c = some x := fun c x hc => by
    have := (hwf.2 c _ hc).2
    simp only [St.up_m]
    rw [St.set_m_ne _ _ (by omega)]; exact hc
  refine appK_one2 ht hxt hz hzs hb0 (hw.keepR fun b o _ hb => keep b _ hb) (ty := ty) (fz := (0, 0)) (by simp) hyl hy1 hroom fun v' σ' h1 h2 h3 h4 => ?_
  obtain ⟨A, C, rfl, hC⟩ := h1.is
  simp only [St.up_n] at h2 h4
  have hb : ∀ b, blk (.slice A (n + 1) C) = some b → s.n ≤ b ∨ blk w = some b := fun b hb => (h2 b hb).imp (fun h => by omega) id
  refine hK A C σ' hC h1 (fun c hc hw' => ?_) hb (by omega)
  rw [h3 c fun e => (hb c e).elim (by omega) hw']
  simp only [St.up_m]
  rw [St.set_m_ne _ _ (by omega)]
end
section
variable {B : World} {σ τ : St} {K : Value → St → Prop}
/-- 'copy(d, x)', where there is room for all. -/
def cpS (P : Program) (B : World) (σ : St) (t : TypeId) (dv xv : Value) (K : Value → St → Prop) : Prop :=
  ∃ a dLen cap el s b n ys σ', dv = .slice (some a) dLen cap ∧ se P t = some (el, s, b) ∧ fc B σ s xv = some (n, ys) ∧ n ≤ dLen ∧ wrs σ a ys = some σ' ∧ K (.int .i64 n) σ'
theorem opS_copy {P : Program} {d : Option Tmp} {pos : String} {af : Array Edge} {ty t xt : TypeId} {a x : Operand} {e : Fr} {K : Fr → St → Prop} (h : cpS P B σ t (ev e a) (ev e x) fun v σ' => K (e.put d v) σ') :
    opS P B ⟨d, .call ⟨.builtin .copy, #[a, x], #[t, xt]⟩, ty, pos, af, none⟩ K e σ := by
  show OpK P B (.call ⟨.builtin .copy, #[a, x], #[t, xt]⟩) ty (ev e) σ fun v σ' => K (e.put d v) σ'
  intro w hw
  obtain ⟨ad, dLen, cap, el, s, b, n, ys, σ', hdv, hse, hfc, hn, hwr, hK⟩ := h
  obtain ⟨i, hu, hi, rfl, rfl⟩ := se_spec hse
  obtain ⟨hlen, hnew⟩ := run_fc (P := P) hw hfc
  obtain ⟨w', hw', hr⟩ := run_wrs (P := P) hw hwr
  have hmin : Nat.min n dLen = n := Nat.min_eq_left hn
  have : (execOp (ev e) { dst := none, op := .call ⟨.builtin .copy, #[a, x], #[t, xt]⟩, type := ty, pos := "", after := #[], guard := none }).run P w = .ok (.value (.int .i64 n)) w' := by
    simp only [execOp, resolve, List.map_toArray, List.map_cons, List.map_nil, Sem.run_bind, Sem.run_pure, Result.andThen_ok, invoke]
    simp [builtin, Builtin.copy_, run_und hu, hdv, hlen, hmin, run_sz hi, hnew, hw']
    rfl
  rw [this]
  exact ⟨_, hr, hK⟩
theorem zc_bools' (n : Nat) : zc (.bool false) n = (bools (List.replicate n false)).toArray := by
  have hl : (zc (.bool false) n).size = n := by simp [zc, zcells]
  apply Array.ext
  · rw [hl]; simp [bools]
  · intro i h1 h2
    simp [zc, zcells, bools, Value.cells, Array.getElem_map, Nat.mod_one]
def padB (dn : List Bool) (n : Nat) : List Bool := dn ++ List.replicate (n - dn.length) false
theorem padB_len {dn : List Bool} {n : Nat} (h : dn.length ≤ n) : (padB dn n).length = n := by simp [padB]; omega
theorem padB_get {dn : List Bool} {n i : Nat} (h : dn.length ≤ n) (hi : i < n) : (padB dn n)[i]? = some (dnB dn i) := by
  unfold padB dnB
  rcases Nat.lt_or_ge i dn.length with h1 | h1
  · rw [List.getElem?_append_left h1, List.getD_eq_getElem?_getD, List.getElem?_eq_getElem h1]; rfl
  · rw [List.getElem?_append_right h1, List.getElem?_replicate, if_pos (by omega), List.getD_eq_getElem?_getD, List.getElem?_eq_none h1]; rfl
theorem wr_bools {s : St} {b n : Nat} {dn : List Bool} (hb : s.m b = some (.raw (.cells (bools (List.replicate n false)).toArray 4 (0, 0)))) (hd : dn.length ≤ n) : wrs s ⟨b, 0, none⟩ (bools dn) = some (s.set b (.raw (.cells (bools (padB dn n)).toArray 4 (0, 0)))) := by
  have h1 := wrl_list (bools dn) [] (bools (List.replicate n false)) (by simp [bools]; exact hd)
  simp only [List.nil_append, List.length_nil] at h1
  have h2 : (bools dn).all Value.oneCell' = true := by simp [bools, Value.oneCell']
  rw [wrs_eq, hb, wrK_raw, if_pos ⟨by simp [bools]; exact hd, h2⟩, h1]
  simp [padB, bools, List.map_append, List.map_replicate, List.drop_replicate]
structure RmI (A : Option Addr) (n c i : Nat) (al ov : Value) (e : Fr) : Prop where
  v0 : e.v 0 = .slice A n c
  v5 : e.v 5 = al
  v6 : e.v 6 = ov
  v7 : e.v 7 = .int .i64 i
  d : e.d = []
structure RmS (σ : St) (al : Value) (xs : List Bool) (o : List Int) (ov : Value) (s : St) : Prop where
  oa : Own s 4 1 (bools xs) xs.length al
  ow : Own s 3 1 (ints o) o.length ov
  nb : ∀ b, blk ov = some b → σ.n ≤ b ∧ blk al ≠ some b
  na : ∀ b, blk al = some b → σ.n ≤ b
  old : ∀ c, c < σ.n → s.m c = σ.m c
  n : σ.n ≤ s.n
structure EqSt (s s' : St) : Prop where
  eq : s' = s
structure RmJ (k : Nat) (free : Bool) (e : Fr) : Prop where
  v8 : e.v 8 = .bool free
  v9 : e.v 9 = .int .i64 k
set_option maxHeartbeats 8000000 in
theorem ref_minimal {l : List Cl} {dn : List Bool} {v dv : Value} (hl : l.length ≤ 100000) (hdl : dn.length ≤ l.length) (ho : Sq B σ l v) (hdn : Own σ 4 1 (bools dn) dn.length dv)
    (hK : ∀ v' s, Own s 3 1 (ints (outs l dn l.length)) (outs l dn l.length).length v' → (∀ c, c < σ.n → s.m c = σ.m c) → (∀ b, blk v' = some b → σ.n ≤ b) → σ.n ≤ s.n → K v' s) : Fn Tryz.prog B 69 #[v, dv] σ K := by
  obtain ⟨A, cap, rfl, hc, ho⟩ := ho
  refine Fn.of is69 (by simp) fun hwf => ?_
  simp only [b69, Tryz.f69, Option.getD_some]
  simp -implicitDefEqProofs (disch := first | omega | (simp only [St.set_n, St.up_n, List.length_cons, List.length_nil]; omega)) only [go_sem, Nat.reduceAdd, Nat.reduceMul, Nat.reduceSub, Int.reduceAdd, Int.reduceMul, Int.reduceSub, Int.reduceNeg, Int.reduceToNat]
  rw [zc_bools']
  refine opS_copy ?_
  simp -implicitDefEqProofs (disch := first | omega | (simp only [St.set_n, St.up_n, List.length_cons, List.length_nil]; omega)) only [go_sem, Nat.reduceAdd, Nat.reduceMul, Nat.reduceSub, Int.reduceAdd, Int.reduceMul, Int.reduceSub, Int.reduceNeg, Int.reduceToNat]
  have hm1 : ((σ.set σ.n (.raw (.cells (bools (List.replicate l.length false)).toArray 4 (0, 0)))).up (σ.n + 1)).m σ.n = some (.raw (.cells (bools (List.replicate l.length false)).toArray 4 (0, 0))) := by simp -implicitDefEqProofs (disch := first | omega | (simp only [St.set_n, St.up_n, List.length_cons, List.length_nil]; omega)) only [go_sem, Nat.reduceAdd, Nat.reduceMul, Nat.reduceSub, Int.reduceAdd, Int.reduceMul, Int.reduceSub, Int.reduceNeg, Int.reduceToNat]
  have hdn1 : Own ((σ.set σ.n (.raw (.cells (bools (List.replicate l.length false)).toArray 4 (0, 0)))).up (σ.n + 1)) 4 1 (bools dn) dn.length dv := hdn.keepR fun b o _ hb => by
    have := (hwf.2 _ _ hb).2
    simp -implicitDefEqProofs (disch := first | omega | (simp only [St.set_n, St.up_n, List.length_cons, List.length_nil]; omega)) only [go_sem, Nat.reduceAdd, Nat.reduceMul, Nat.reduceSub, Int.reduceAdd, Int.reduceMul, Int.reduceSub, Int.reduceNeg, Int.reduceToNat, hb]
  refine ⟨⟨σ.n, 0, none⟩, _, _, 4, 1, 1, dn.length, bools dn, _, rfl, se120, hdn1.fc, hdl, wr_bools hm1 hdl, ?_⟩
  have hpl := padB_len hdl
  have hM0 : RmS σ (.slice (some ⟨σ.n, 0, none⟩) l.length l.length) (padB dn l.length) [] (.slice none 0 0) (((σ.set σ.n (.raw (.cells (bools (List.replicate l.length false)).toArray 4 (0, 0)))).up (σ.n + 1)).set σ.n (.raw (.cells (bools (padB dn l.length)).toArray 4 (0, 0)))) := by
    refine ⟨?_, Own.nil, fun b hb => (by cases hb), fun b hb => ?_, fun c hc => by simp -implicitDefEqProofs (disch := first | omega | (simp only [St.set_n, St.up_n, List.length_cons, List.length_nil]; omega)) only [go_sem, Nat.reduceAdd, Nat.reduceMul, Nat.reduceSub, Int.reduceAdd, Int.reduceMul, Int.reduceSub, Int.reduceNeg, Int.reduceToNat], by simp -implicitDefEqProofs (disch := first | omega | (simp only [St.set_n, St.up_n, List.length_cons, List.length_nil]; omega)) only [go_sem, Nat.reduceAdd, Nat.reduceMul, Nat.reduceSub, Int.reduceAdd, Int.reduceMul, Int.reduceSub, Int.reduceNeg, Int.reduceToNat]; omega⟩
    · rw [hpl]
      exact Own.of' (sp := []) (by simp -implicitDefEqProofs (disch := first | omega | (simp only [St.set_n, St.up_n, List.length_cons, List.length_nil]; omega)) only [go_sem, Nat.reduceAdd, Nat.reduceMul, Nat.reduceSub, Int.reduceAdd, Int.reduceMul, Int.reduceSub, Int.reduceNeg, Int.reduceToNat]) (by rw [bools_len, hpl]; omega) (Nat.le_refl _) (by rw [List.append_nil, bools_len, hpl]; omega)
    · simp only [blk, Option.some.injEq] at hb; omega
  have hw0 : (((σ.set σ.n (.raw (.cells (bools (List.replicate l.length false)).toArray 4 (0, 0)))).up (σ.n + 1)).set σ.n (.raw (.cells (bools (padB dn l.length)).toArray 4 (0, 0)))).wf B := by
    have := hwf.1
    refine ⟨by simp only [St.set_n, St.up_n]; omega, fun d x hx => ?_⟩
    simp only [St.up_m, St.set, St.up_n] at hx ⊢
    split at hx
    · omega
    · have := hwf.2 _ _ hx; omega
  generalize (((σ.set σ.n (.raw (.cells (bools (List.replicate l.length false)).toArray 4 (0, 0)))).up (σ.n + 1)).set σ.n (.raw (.cells (bools (padB dn l.length)).toArray 4 (0, 0)))) = s0 at hM0 hw0 ⊢
  refine loop_rule (fun m e s => ∃ (i : Nat) (ov : Value), m = l.length - i ∧ i ≤ l.length ∧ RmI A l.length cap i (.slice (some ⟨σ.n, 0, none⟩) l.length l.length) ov e ∧ RmS σ (.slice (some ⟨σ.n, 0, none⟩) l.length l.length) (padB dn l.length) (outs l dn i) ov s) l.length ?_ ?_
  · exact ⟨0, .slice none 0 0, by omega, by omega, ⟨by simp -implicitDefEqProofs (disch := first | omega | (simp only [St.set_n, St.up_n, List.length_cons, List.length_nil]; omega)) only [go_sem, Nat.reduceAdd, Nat.reduceMul, Nat.reduceSub, Int.reduceAdd, Int.reduceMul, Int.reduceSub, Int.reduceNeg, Int.reduceToNat], by simp -implicitDefEqProofs (disch := first | omega | (simp only [St.set_n, St.up_n, List.length_cons, List.length_nil]; omega)) only [go_sem, Nat.reduceAdd, Nat.reduceMul, Nat.reduceSub, Int.reduceAdd, Int.reduceMul, Int.reduceSub, Int.reduceNeg, Int.reduceToNat], by simp -implicitDefEqProofs (disch := first | omega | (simp only [St.set_n, St.up_n, List.length_cons, List.length_nil]; omega)) only [go_sem, Nat.reduceAdd, Nat.reduceMul, Nat.reduceSub, Int.reduceAdd, Int.reduceMul, Int.reduceSub, Int.reduceNeg, Int.reduceToNat], by simp -implicitDefEqProofs (disch := first | omega | (simp only [St.set_n, St.up_n, List.length_cons, List.length_nil]; omega)) only [go_sem, Nat.reduceAdd, Nat.reduceMul, Nat.reduceSub, Int.reduceAdd, Int.reduceMul, Int.reduceSub, Int.reduceNeg, Int.reduceToNat]; rfl, by simp -implicitDefEqProofs (disch := first | omega | (simp only [St.set_n, St.up_n, List.length_cons, List.length_nil]; omega)) only [go_sem, Nat.reduceAdd, Nat.reduceMul, Nat.reduceSub, Int.reduceAdd, Int.reduceMul, Int.reduceSub, Int.reduceNeg, Int.reduceToNat]⟩, hM0⟩
  clear hM0 hw0
  rintro m e s hws ⟨i, ov, hm, hi, ⟨q0, q5, q6, q7, hd⟩, hM⟩
  by_cases hlt : (i : Int) < l.length
  · obtain ⟨c, hci⟩ : ∃ x, l[i]? = some x := ⟨l[i]'(by omega), List.getElem?_eq_getElem (by omega)⟩
    obtain ⟨b, o, rfl, hb, hcell⟩ := ho i c hci
    have hcell' := hcell
    rw [← hM.old b hb] at hcell'
    have hcc := sq_cells hcell'
    have hoa := hM.oa
    rw [hpl] at hoa
    obtain ⟨ba, ca, spa, ea, _, ma, _, _⟩ := hoa.has (by omega)
    simp only [Value.slice.injEq, Option.some.injEq, Addr.mk.injEq, and_true, true_and] at ea
    obtain ⟨rfl, rfl⟩ := ea
    have gi := bools_get (padB_get hdl (i := i) (by omega)) spa
    simp -implicitDefEqProofs (disch := first | omega | (simp only [St.set_n, St.up_n, List.length_cons, List.length_nil]; omega)) only [go_sem, Nat.reduceAdd, Nat.reduceMul, Nat.reduceSub, Int.reduceAdd, Int.reduceMul, Int.reduceSub, Int.reduceNeg, Int.reduceToNat, q0, q5, q7, hlt, ma, gi]
    refine loop_rule (fun m e s2 => ∃ k : Nat, m = l.length - k ∧ k ≤ l.length ∧ RmI (some ⟨b, o, none⟩) l.length cap i (.slice (some ⟨σ.n, 0, none⟩) l.length l.length) ov e ∧ RmJ k (!dnB dn i && okM l dn i c k) e ∧ EqSt s s2) l.length ?_ ?_
    · exact ⟨0, by omega, by omega, ⟨by simp -implicitDefEqProofs (disch := first | omega | (simp only [St.set_n, St.up_n, List.length_cons, List.length_nil]; omega)) only [go_sem, Nat.reduceAdd, Nat.reduceMul, Nat.reduceSub, Int.reduceAdd, Int.reduceMul, Int.reduceSub, Int.reduceNeg, Int.reduceToNat, q0], by simp -implicitDefEqProofs (disch := first | omega | (simp only [St.set_n, St.up_n, List.length_cons, List.length_nil]; omega)) only [go_sem, Nat.reduceAdd, Nat.reduceMul, Nat.reduceSub, Int.reduceAdd, Int.reduceMul, Int.reduceSub, Int.reduceNeg, Int.reduceToNat, q5], by simp -implicitDefEqProofs (disch := first | omega | (simp only [St.set_n, St.up_n, List.length_cons, List.length_nil]; omega)) only [go_sem, Nat.reduceAdd, Nat.reduceMul, Nat.reduceSub, Int.reduceAdd, Int.reduceMul, Int.reduceSub, Int.reduceNeg, Int.reduceToNat, q6], by simp -implicitDefEqProofs (disch := first | omega | (simp only [St.set_n, St.up_n, List.length_cons, List.length_nil]; omega)) only [go_sem, Nat.reduceAdd, Nat.reduceMul, Nat.reduceSub, Int.reduceAdd, Int.reduceMul, Int.reduceSub, Int.reduceNeg, Int.reduceToNat, q7], by simp -implicitDefEqProofs (disch := first | omega | (simp only [St.set_n, St.up_n, List.length_cons, List.length_nil]; omega)) only [go_sem, Nat.reduceAdd, Nat.reduceMul, Nat.reduceSub, Int.reduceAdd, Int.reduceMul, Int.reduceSub, Int.reduceNeg, Int.reduceToNat, hd]⟩, ⟨by rw [okM_zero]; simp -implicitDefEqProofs (disch := first | omega | (simp only [St.set_n, St.up_n, List.length_cons, List.length_nil]; omega)) only [go_sem, Nat.reduceAdd, Nat.reduceMul, Nat.reduceSub, Int.reduceAdd, Int.reduceMul, Int.reduceSub, Int.reduceNeg, Int.reduceToNat], by simp -implicitDefEqProofs (disch := first | omega | (simp only [St.set_n, St.up_n, List.length_cons, List.length_nil]; omega)) only [go_sem, Nat.reduceAdd, Nat.reduceMul, Nat.reduceSub, Int.reduceAdd, Int.reduceMul, Int.reduceSub, Int.reduceNeg, Int.reduceToNat]; rfl⟩, ⟨rfl⟩⟩
    clear q0 q5 q6 q7 hd
    rintro m e s2 hws2 ⟨k, hm', hk, ⟨q0, q5, q6, q7, hd⟩, ⟨q8, q9⟩, ⟨rfl⟩⟩
    by_cases hkl : (k : Int) < l.length
    · obtain ⟨d, hdk⟩ : ∃ x, l[k]? = some x := ⟨l[k]'(by omega), List.getElem?_eq_getElem (by omega)⟩
      obtain ⟨_, _, e0, _, hdcell⟩ := ho k d hdk
      cases e0
      rw [← hM.old b hb] at hdcell
      have hdd := sq_cells hdcell
      have gk := bools_get (padB_get hdl (i := k) (by omega)) spa
      have hT : okM l dn i c (k + 1) = (okM l dn i c k && (decide (k = i) || dnB dn k || !decide (d.to < c.fr))) := by rw [okM_succ]; simp only [okT, hdk]
      have hnext : ∀ (e' : Fr), RmI (some ⟨b, o, none⟩) l.length cap i (.slice (some ⟨σ.n, 0, none⟩) l.length l.length) ov e' → RmJ (k + 1) (!dnB dn i && okM l dn i c (k + 1)) e' →
          ∃ m', m' < m ∧ ∃ k : Nat, m' = l.length - k ∧ k ≤ l.length ∧ RmI (some ⟨b, o, none⟩) l.length cap i (.slice (some ⟨σ.n, 0, none⟩) l.length l.length) ov e' ∧ RmJ k (!dnB dn i && okM l dn i c k) e' ∧ EqSt s2 s2 :=
        fun e' h1 h2 => ⟨l.length - (k + 1), by omega, k + 1, rfl, by omega, h1, h2, ⟨rfl⟩⟩
      by_cases hki : (k : Int) = i
      · obtain rfl : k = i := by omega
        have hf2 : (!dnB dn k && okM l dn k c (k + 1)) = (!dnB dn k && okM l dn k c k) := by rw [hT]; simp
        simp -implicitDefEqProofs (disch := first | omega | (simp only [St.set_n, St.up_n, List.length_cons, List.length_nil]; omega)) only [go_sem, Nat.reduceAdd, Nat.reduceMul, Nat.reduceSub, Int.reduceAdd, Int.reduceMul, Int.reduceSub, Int.reduceNeg, Int.reduceToNat, q0, q5, q7, q8, q9, hlt, ma, gi]
        exact hnext _ ⟨by simp -implicitDefEqProofs (disch := first | omega | (simp only [St.set_n, St.up_n, List.length_cons, List.length_nil]; omega)) only [go_sem, Nat.reduceAdd, Nat.reduceMul, Nat.reduceSub, Int.reduceAdd, Int.reduceMul, Int.reduceSub, Int.reduceNeg, Int.reduceToNat, q0], by simp -implicitDefEqProofs (disch := first | omega | (simp only [St.set_n, St.up_n, List.length_cons, List.length_nil]; omega)) only [go_sem, Nat.reduceAdd, Nat.reduceMul, Nat.reduceSub, Int.reduceAdd, Int.reduceMul, Int.reduceSub, Int.reduceNeg, Int.reduceToNat, q5], by simp -implicitDefEqProofs (disch := first | omega | (simp only [St.set_n, St.up_n, List.length_cons, List.length_nil]; omega)) only [go_sem, Nat.reduceAdd, Nat.reduceMul, Nat.reduceSub, Int.reduceAdd, Int.reduceMul, Int.reduceSub, Int.reduceNeg, Int.reduceToNat, q6], by simp -implicitDefEqProofs (disch := first | omega | (simp only [St.set_n, St.up_n, List.length_cons, List.length_nil]; omega)) only [go_sem, Nat.reduceAdd, Nat.reduceMul, Nat.reduceSub, Int.reduceAdd, Int.reduceMul, Int.reduceSub, Int.reduceNeg, Int.reduceToNat, q7], by simp -implicitDefEqProofs (disch := first | omega | (simp only [St.set_n, St.up_n, List.length_cons, List.length_nil]; omega)) only [go_sem, Nat.reduceAdd, Nat.reduceMul, Nat.reduceSub, Int.reduceAdd, Int.reduceMul, Int.reduceSub, Int.reduceNeg, Int.reduceToNat, hd]⟩ ⟨by rw [hf2]; simp -implicitDefEqProofs (disch := first | omega | (simp only [St.set_n, St.up_n, List.length_cons, List.length_nil]; omega)) only [go_sem, Nat.reduceAdd, Nat.reduceMul, Nat.reduceSub, Int.reduceAdd, Int.reduceMul, Int.reduceSub, Int.reduceNeg, Int.reduceToNat, q8], by simp -implicitDefEqProofs (disch := first | omega | (simp only [St.set_n, St.up_n, List.length_cons, List.length_nil]; omega)) only [go_sem, Nat.reduceAdd, Nat.reduceMul, Nat.reduceSub, Int.reduceAdd, Int.reduceMul, Int.reduceSub, Int.reduceNeg, Int.reduceToNat]; rfl⟩
      · have hki' : ¬ k = i := by omega
        cases hdk' : dnB dn k with
        | true =>
          rw [hdk'] at gk
          have hf2 : (!dnB dn i && okM l dn i c (k + 1)) = (!dnB dn i && okM l dn i c k) := by rw [hT, hdk']; simp
          simp -implicitDefEqProofs (disch := first | omega | (simp only [St.set_n, St.up_n, List.length_cons, List.length_nil]; omega)) only [go_sem, Nat.reduceAdd, Nat.reduceMul, Nat.reduceSub, Int.reduceAdd, Int.reduceMul, Int.reduceSub, Int.reduceNeg, Int.reduceToNat, q0, q5, q7, q8, q9, hlt, hkl, hki, ma, gk]
          exact hnext _ ⟨by simp -implicitDefEqProofs (disch := first | omega | (simp only [St.set_n, St.up_n, List.length_cons, List.length_nil]; omega)) only [go_sem, Nat.reduceAdd, Nat.reduceMul, Nat.reduceSub, Int.reduceAdd, Int.reduceMul, Int.reduceSub, Int.reduceNeg, Int.reduceToNat, q0], by simp -implicitDefEqProofs (disch := first | omega | (simp only [St.set_n, St.up_n, List.length_cons, List.length_nil]; omega)) only [go_sem, Nat.reduceAdd, Nat.reduceMul, Nat.reduceSub, Int.reduceAdd, Int.reduceMul, Int.reduceSub, Int.reduceNeg, Int.reduceToNat, q5], by simp -implicitDefEqProofs (disch := first | omega | (simp only [St.set_n, St.up_n, List.length_cons, List.length_nil]; omega)) only [go_sem, Nat.reduceAdd, Nat.reduceMul, Nat.reduceSub, Int.reduceAdd, Int.reduceMul, Int.reduceSub, Int.reduceNeg, Int.reduceToNat, q6], by simp -implicitDefEqProofs (disch := first | omega | (simp only [St.set_n, St.up_n, List.length_cons, List.length_nil]; omega)) only [go_sem, Nat.reduceAdd, Nat.reduceMul, Nat.reduceSub, Int.reduceAdd, Int.reduceMul, Int.reduceSub, Int.reduceNeg, Int.reduceToNat, q7], by simp -implicitDefEqProofs (disch := first | omega | (simp only [St.set_n, St.up_n, List.length_cons, List.length_nil]; omega)) only [go_sem, Nat.reduceAdd, Nat.reduceMul, Nat.reduceSub, Int.reduceAdd, Int.reduceMul, Int.reduceSub, Int.reduceNeg, Int.reduceToNat, hd]⟩ ⟨by rw [hf2]; simp -implicitDefEqProofs (disch := first | omega | (simp only [St.set_n, St.up_n, List.length_cons, List.length_nil]; omega)) only [go_sem, Nat.reduceAdd, Nat.reduceMul, Nat.reduceSub, Int.reduceAdd, Int.reduceMul, Int.reduceSub, Int.reduceNeg, Int.reduceToNat, q8], by simp -implicitDefEqProofs (disch := first | omega | (simp only [St.set_n, St.up_n, List.length_cons, List.length_nil]; omega)) only [go_sem, Nat.reduceAdd, Nat.reduceMul, Nat.reduceSub, Int.reduceAdd, Int.reduceMul, Int.reduceSub, Int.reduceNeg, Int.reduceToNat]; rfl⟩
        | false =>
          rw [hdk'] at gk
          by_cases hah : d.to < c.fr
          · have hf2 : (!dnB dn i && okM l dn i c (k + 1)) = false := by rw [hT, hdk']; simp [hki', hah]
            simp -implicitDefEqProofs (disch := first | omega | (simp only [St.set_n, St.up_n, List.length_cons, List.length_nil]; omega)) only [go_sem, Nat.reduceAdd, Nat.reduceMul, Nat.reduceSub, Int.reduceAdd, Int.reduceMul, Int.reduceSub, Int.reduceNeg, Int.reduceToNat, q0, q5, q7, q8, q9, hlt, hkl, hki, ma, gk, hcc, hdd, hah]
            exact hnext _ ⟨by simp -implicitDefEqProofs (disch := first | omega | (simp only [St.set_n, St.up_n, List.length_cons, List.length_nil]; omega)) only [go_sem, Nat.reduceAdd, Nat.reduceMul, Nat.reduceSub, Int.reduceAdd, Int.reduceMul, Int.reduceSub, Int.reduceNeg, Int.reduceToNat, q0], by simp -implicitDefEqProofs (disch := first | omega | (simp only [St.set_n, St.up_n, List.length_cons, List.length_nil]; omega)) only [go_sem, Nat.reduceAdd, Nat.reduceMul, Nat.reduceSub, Int.reduceAdd, Int.reduceMul, Int.reduceSub, Int.reduceNeg, Int.reduceToNat, q5], by simp -implicitDefEqProofs (disch := first | omega | (simp only [St.set_n, St.up_n, List.length_cons, List.length_nil]; omega)) only [go_sem, Nat.reduceAdd, Nat.reduceMul, Nat.reduceSub, Int.reduceAdd, Int.reduceMul, Int.reduceSub, Int.reduceNeg, Int.reduceToNat, q6], by simp -implicitDefEqProofs (disch := first | omega | (simp only [St.set_n, St.up_n, List.length_cons, List.length_nil]; omega)) only [go_sem, Nat.reduceAdd, Nat.reduceMul, Nat.reduceSub, Int.reduceAdd, Int.reduceMul, Int.reduceSub, Int.reduceNeg, Int.reduceToNat, q7], by simp -implicitDefEqProofs (disch := first | omega | (simp only [St.set_n, St.up_n, List.length_cons, List.length_nil]; omega)) only [go_sem, Nat.reduceAdd, Nat.reduceMul, Nat.reduceSub, Int.reduceAdd, Int.reduceMul, Int.reduceSub, Int.reduceNeg, Int.reduceToNat, hd]⟩ ⟨by rw [hf2]; simp -implicitDefEqProofs (disch := first | omega | (simp only [St.set_n, St.up_n, List.length_cons, List.length_nil]; omega)) only [go_sem, Nat.reduceAdd, Nat.reduceMul, Nat.reduceSub, Int.reduceAdd, Int.reduceMul, Int.reduceSub, Int.reduceNeg, Int.reduceToNat], by simp -implicitDefEqProofs (disch := first | omega | (simp only [St.set_n, St.up_n, List.length_cons, List.length_nil]; omega)) only [go_sem, Nat.reduceAdd, Nat.reduceMul, Nat.reduceSub, Int.reduceAdd, Int.reduceMul, Int.reduceSub, Int.reduceNeg, Int.reduceToNat]; rfl⟩
          · have hf2 : (!dnB dn i && okM l dn i c (k + 1)) = (!dnB dn i && okM l dn i c k) := by rw [hT, hdk']; simp [hki', hah]
            simp -implicitDefEqProofs (disch := first | omega | (simp only [St.set_n, St.up_n, List.length_cons, List.length_nil]; omega)) only [go_sem, Nat.reduceAdd, Nat.reduceMul, Nat.reduceSub, Int.reduceAdd, Int.reduceMul, Int.reduceSub, Int.reduceNeg, Int.reduceToNat, q0, q5, q7, q8, q9, hlt, hkl, hki, ma, gk, hcc, hdd, hah]
            exact hnext _ ⟨by simp -implicitDefEqProofs (disch := first | omega | (simp only [St.set_n, St.up_n, List.length_cons, List.length_nil]; omega)) only [go_sem, Nat.reduceAdd, Nat.reduceMul, Nat.reduceSub, Int.reduceAdd, Int.reduceMul, Int.reduceSub, Int.reduceNeg, Int.reduceToNat, q0], by simp -implicitDefEqProofs (disch := first | omega | (simp only [St.set_n, St.up_n, List.length_cons, List.length_nil]; omega)) only [go_sem, Nat.reduceAdd, Nat.reduceMul, Nat.reduceSub, Int.reduceAdd, Int.reduceMul, Int.reduceSub, Int.reduceNeg, Int.reduceToNat, q5], by simp -implicitDefEqProofs (disch := first | omega | (simp only [St.set_n, St.up_n, List.length_cons, List.length_nil]; omega)) only [go_sem, Nat.reduceAdd, Nat.reduceMul, Nat.reduceSub, Int.reduceAdd, Int.reduceMul, Int.reduceSub, Int.reduceNeg, Int.reduceToNat, q6], by simp -implicitDefEqProofs (disch := first | omega | (simp only [St.set_n, St.up_n, List.length_cons, List.length_nil]; omega)) only [go_sem, Nat.reduceAdd, Nat.reduceMul, Nat.reduceSub, Int.reduceAdd, Int.reduceMul, Int.reduceSub, Int.reduceNeg, Int.reduceToNat, q7], by simp -implicitDefEqProofs (disch := first | omega | (simp only [St.set_n, St.up_n, List.length_cons, List.length_nil]; omega)) only [go_sem, Nat.reduceAdd, Nat.reduceMul, Nat.reduceSub, Int.reduceAdd, Int.reduceMul, Int.reduceSub, Int.reduceNeg, Int.reduceToNat, hd]⟩ ⟨by rw [hf2]; simp -implicitDefEqProofs (disch := first | omega | (simp only [St.set_n, St.up_n, List.length_cons, List.length_nil]; omega)) only [go_sem, Nat.reduceAdd, Nat.reduceMul, Nat.reduceSub, Int.reduceAdd, Int.reduceMul, Int.reduceSub, Int.reduceNeg, Int.reduceToNat, q8], by simp -implicitDefEqProofs (disch := first | omega | (simp only [St.set_n, St.up_n, List.length_cons, List.length_nil]; omega)) only [go_sem, Nat.reduceAdd, Nat.reduceMul, Nat.reduceSub, Int.reduceAdd, Int.reduceMul, Int.reduceSub, Int.reduceNeg, Int.reduceToNat]; rfl⟩
    · have hkl2 : k = l.length := by omega
      subst hkl2
      have hfr : frB l dn i = (!dnB dn i && okM l dn i c l.length) := by simp only [frB, hci]
      have hos := outs_succ l dn i
      cases hfree : (!dnB dn i && okM l dn i c l.length) with
      | false =>
        rw [hfree] at q8 hfr
        rw [hfr] at hos
        simp only [Bool.false_eq_true, if_false] at hos
        simp -implicitDefEqProofs (disch := first | omega | (simp only [St.set_n, St.up_n, List.length_cons, List.length_nil]; omega)) only [go_sem, Nat.reduceAdd, Nat.reduceMul, Nat.reduceSub, Int.reduceAdd, Int.reduceMul, Int.reduceSub, Int.reduceNeg, Int.reduceToNat, q0, q9, hkl, q8, q7]
        exact ⟨l.length - (i + 1), by omega, i + 1, ov, rfl, by omega, ⟨by simp -implicitDefEqProofs (disch := first | omega | (simp only [St.set_n, St.up_n, List.length_cons, List.length_nil]; omega)) only [go_sem, Nat.reduceAdd, Nat.reduceMul, Nat.reduceSub, Int.reduceAdd, Int.reduceMul, Int.reduceSub, Int.reduceNeg, Int.reduceToNat, q0], by simp -implicitDefEqProofs (disch := first | omega | (simp only [St.set_n, St.up_n, List.length_cons, List.length_nil]; omega)) only [go_sem, Nat.reduceAdd, Nat.reduceMul, Nat.reduceSub, Int.reduceAdd, Int.reduceMul, Int.reduceSub, Int.reduceNeg, Int.reduceToNat, q5], by simp -implicitDefEqProofs (disch := first | omega | (simp only [St.set_n, St.up_n, List.length_cons, List.length_nil]; omega)) only [go_sem, Nat.reduceAdd, Nat.reduceMul, Nat.reduceSub, Int.reduceAdd, Int.reduceMul, Int.reduceSub, Int.reduceNeg, Int.reduceToNat, q6], by simp -implicitDefEqProofs (disch := first | omega | (simp only [St.set_n, St.up_n, List.length_cons, List.length_nil]; omega)) only [go_sem, Nat.reduceAdd, Nat.reduceMul, Nat.reduceSub, Int.reduceAdd, Int.reduceMul, Int.reduceSub, Int.reduceNeg, Int.reduceToNat]; rfl, by simp -implicitDefEqProofs (disch := first | omega | (simp only [St.set_n, St.up_n, List.length_cons, List.length_nil]; omega)) only [go_sem, Nat.reduceAdd, Nat.reduceMul, Nat.reduceSub, Int.reduceAdd, Int.reduceMul, Int.reduceSub, Int.reduceNeg, Int.reduceToNat, hd]⟩, by rw [hos]; exact hM⟩
      | true =>
        rw [hfree] at q8 hfr
        rw [hfr] at hos
        simp only [if_true] at hos
        have hol := outs_len l dn i
        obtain ⟨Ao, co, rfl, _⟩ := hM.ow.is
        simp -implicitDefEqProofs (disch := first | omega | (simp only [St.set_n, St.up_n, List.length_cons, List.length_nil]; omega)) only [go_sem, Nat.reduceAdd, Nat.reduceMul, Nat.reduceSub, Int.reduceAdd, Int.reduceMul, Int.reduceSub, Int.reduceNeg, Int.reduceToNat, q0, q9, hkl, q8, q6, q7]
        refine appF_eq hws2 hM.ow se22 kd22 zr3 rfl (by omega) (ys := [.int .i64 i]) rfl rfl (by omega) fun A' C' s4 hC' o1 heq hb1 hn4 => ?_
        have hMn2 := hM.n
        simp -implicitDefEqProofs (disch := first | omega | (simp only [St.set_n, St.up_n, List.length_cons, List.length_nil]; omega)) only [go_sem, Nat.reduceAdd, Nat.reduceMul, Nat.reduceSub, Int.reduceAdd, Int.reduceMul, Int.reduceSub, Int.reduceNeg, Int.reduceToNat, q7]
        have hlo : (outs l dn (i + 1)).length = (outs l dn i).length + 1 := by rw [hos]; simp
        have hio : ints (outs l dn (i + 1)) = ints (outs l dn i) ++ [.int .i64 i] := by rw [hos, ints_append]; rfl
        have hoff : ∀ c, c < σ.n → blk (.slice Ao (outs l dn i).length co) ≠ some c := fun c hc e => by have := (hM.nb c e).1; omega
        refine ⟨l.length - (i + 1), by omega, i + 1, .slice A' ((outs l dn i).length + 1) C', rfl, by omega, ⟨by simp -implicitDefEqProofs (disch := first | omega | (simp only [St.set_n, St.up_n, List.length_cons, List.length_nil]; omega)) only [go_sem, Nat.reduceAdd, Nat.reduceMul, Nat.reduceSub, Int.reduceAdd, Int.reduceMul, Int.reduceSub, Int.reduceNeg, Int.reduceToNat, q0], by simp -implicitDefEqProofs (disch := first | omega | (simp only [St.set_n, St.up_n, List.length_cons, List.length_nil]; omega)) only [go_sem, Nat.reduceAdd, Nat.reduceMul, Nat.reduceSub, Int.reduceAdd, Int.reduceMul, Int.reduceSub, Int.reduceNeg, Int.reduceToNat, q5], by simp -implicitDefEqProofs (disch := first | omega | (simp only [St.set_n, St.up_n, List.length_cons, List.length_nil]; omega)) only [go_sem, Nat.reduceAdd, Nat.reduceMul, Nat.reduceSub, Int.reduceAdd, Int.reduceMul, Int.reduceSub, Int.reduceNeg, Int.reduceToNat], by simp -implicitDefEqProofs (disch := first | omega | (simp only [St.set_n, St.up_n, List.length_cons, List.length_nil]; omega)) only [go_sem, Nat.reduceAdd, Nat.reduceMul, Nat.reduceSub, Int.reduceAdd, Int.reduceMul, Int.reduceSub, Int.reduceNeg, Int.reduceToNat]; rfl, by simp -implicitDefEqProofs (disch := first | omega | (simp only [St.set_n, St.up_n, List.length_cons, List.length_nil]; omega)) only [go_sem, Nat.reduceAdd, Nat.reduceMul, Nat.reduceSub, Int.reduceAdd, Int.reduceMul, Int.reduceSub, Int.reduceNeg, Int.reduceToNat, hd]⟩, ⟨hM.oa.keepR fun b' o' hb1 ho' => ?_, by rw [hlo, hio]; exact o1, fun b' hb' => ?_, hM.na, fun c hc => ?_, by omega⟩⟩
        · have h5 := (hws2.2 _ _ ho').2
          rw [heq _ h5 fun e => (hM.nb b' e).2 hb1]; exact ho'
        · rcases hb1 b' hb' with h | h
          · refine ⟨by omega, fun e => ?_⟩
            obtain ⟨o', ho'⟩ := hM.oa.at_ e
            have := (hws2.2 _ _ ho').2
            omega
          · exact hM.nb b' h
        · rw [heq _ (by omega) (hoff _ hc)]; exact hM.old c hc
  · simp -implicitDefEqProofs (disch := first | omega | (simp only [St.set_n, St.up_n, List.length_cons, List.length_nil]; omega)) only [go_sem, Nat.reduceAdd, Nat.reduceMul, Nat.reduceSub, Int.reduceAdd, Int.reduceMul, Int.reduceSub, Int.reduceNeg, Int.reduceToNat, q0, q7, hlt, q6, hd]
    have hil : i = l.length := by omega
    subst hil
    exact (hK _ _ hM.ow hM.old (fun b hb => (hM.nb b hb).1) hM.n)
end
end Go.Proofs.YtdbgeahmhfocaaaGreat

/- '!=' on answers. -/
namespace Go.Proofs.YtdbgeahmhfocaaaGreat
set_option linter.unusedSimpArgs false
set_option linter.unusedVariables false
set_option maxRecDepth 100000
open Go Go.RowKit
deriving instance DecidableEq for CAn
theorem siAns : Tryz.prog.stoodInHeld 64 = false := by kernel_rfl
theorem siMsg : Tryz.prog.stoodInHeld 40 = false := by kernel_rfl
theorem egAns : Tryz.prog.eqGuardType Tryz.prog.depth 64 = false := by kernel_rfl
theorem eqD_struct {P : Program} {d : Nat} {t : TypeId} {fs : Array Field} {xs ys : Array Value} (hu : P.underlying t = some (.struct fs)) (hs : P.stoodInHeld t = false) :
    eqD P (d + 1) t (.agg xs) (.agg ys) = eqFs P (fun t a b => eqD P d t a b) xs ys fs.toList := by
  simp only [eqD, hu, hs, Bool.false_eq_true, if_false]
theorem eqD_int {P : Program} {d : Nat} {t : TypeId} {k : IntKind} {a b : Int} (hu : P.underlying t = some (.int k)) : eqD P (d + 1) t (.int .i64 a) (.int .i64 b) = some (decide (a = b)) := by
  simp only [eqD, hu, if_true]
  first | rfl | (by_cases h : a = b <;> simp [h])
theorem eqD_bool {P : Program} {d : Nat} {t : TypeId} {a b : Bool} (hu : P.underlying t = some .bool) : eqD P (d + 1) t (.bool a) (.bool b) = some (decide (a = b)) := by
  simp only [eqD, hu]
  cases a <;> cases b <;> rfl
theorem eqD_string {P : Program} {d : Nat} {t : TypeId} {a b : ByteArray} (hu : P.underlying t = some .string) : eqD P (d + 1) t (.string a) (.string b) = some (decide (a = b)) := by
  have h := sb_eql (x := a) (y := b)
  unfold sb at h
  simp only [Option.some.injEq, Value.bool.injEq] at h
  simp only [eqD, hu, beq_toListBytes]
  rw [← h]
theorem eqFs_any {P : Program} {g : TypeId → Value → Value → Option Bool} {xs ys : Array Value} {f : Field} {fs : List Field} {a b : Value} {r : Bool} (hn : f.name ≠ "_") (ha : prt P f.type xs f.offset = some a) (hb : prt P f.type ys f.offset = some b) (hg : g f.type a b = some r) :
    eqFs P g xs ys (f :: fs) = if r then eqFs P g xs ys fs else some false := by
  rw [eqFs, if_pos hn, ha, hb]; simp only [hg]
  cases r <;> rfl
theorem eqFs_nil {P : Program} {g : TypeId → Value → Value → Option Bool} {xs ys : Array Value} : eqFs P g xs ys [] = some true := rfl
theorem prt_one {P : Program} {t : TypeId} {n off : Nat} {xs : Array Value} (h : tk P t = some (false, n)) : prt P t xs off = xs[off]? := by simp only [prt, h]
theorem prt_agg {P : Program} {t : TypeId} {n off : Nat} {xs : Array Value} (h : tk P t = some (true, n)) : prt P t xs off = some (.agg (xs.extract off (off + n))) := by simp only [prt, h]
theorem neq_ans (a b : CAn) : bin Tryz.prog .neq 64 (.agg (fAn a).toArray) (.agg (fAn b).toArray) = some (.bool (decide (a ≠ b))) := by
  have hms : eqD Tryz.prog 3 40 (.agg #[.string a.topic, .string a.pay, .bool a.kept]) (.agg #[.string b.topic, .string b.pay, .bool b.kept]) = some (decide (a.topic = b.topic) && (decide (a.pay = b.pay) && decide (a.kept = b.kept))) := by
    rw [eqD_struct Tryz.underlying40 siMsg]
    rw [eqFs_any (by decide) ((prt_one tk9).trans rfl) ((prt_one tk9).trans rfl) (eqD_string Tryz.underlying9),
      eqFs_any (by decide) ((prt_one tk9).trans rfl) ((prt_one tk9).trans rfl) (eqD_string Tryz.underlying9),
      eqFs_any (by decide) ((prt_one tk4).trans rfl) ((prt_one tk4).trans rfl) (eqD_bool Tryz.underlying4), eqFs_nil]
    by_cases h1 : a.topic = b.topic <;> by_cases h2 : a.pay = b.pay <;> by_cases h3 : a.kept = b.kept <;> simp [h1, h2, h3]
  have h : eqA Tryz.prog 64 (fAn a).toArray (fAn b).toArray = some (decide (a = b)) := by
    unfold eqA
    rw [egAns]
    simp only [Bool.false_eq_true, if_false]
    rw [eqD_struct Tryz.underlying64 siAns]
    rw [eqFs_any (by decide) ((prt_one tk52).trans rfl) ((prt_one tk52).trans rfl) (eqD_int Tryz.underlying52),
      eqFs_any (by decide) ((prt_one tk3).trans rfl) ((prt_one tk3).trans rfl) (eqD_int Tryz.underlying3),
      eqFs_any (by decide) ((prt_one tk3).trans rfl) ((prt_one tk3).trans rfl) (eqD_int Tryz.underlying3),
      eqFs_any (by decide) ((prt_agg tk40).trans (congrArg some (congrArg Value.agg (by simp [fAn])))) ((prt_agg tk40).trans (congrArg some (congrArg Value.agg (by simp [fAn])))) hms, eqFs_nil]
    obtain ⟨a1, a2, a3, a4, a5, a6⟩ := a
    obtain ⟨b1, b2, b3, b4, b5, b6⟩ := b
    by_cases h1 : a1 = b1 <;> by_cases h2 : a2 = b2 <;> by_cases h3 : a3 = b3 <;> by_cases h4 : a4 = b4 <;> by_cases h5 : a5 = b5 <;> by_cases h6 : a6 = b6 <;> simp [h1, h2, h3, h4, h5, h6]
  simp only [bin, h, Option.map_some]
  by_cases e : a = b <;> simp [e]
end Go.Proofs.YtdbgeahmhfocaaaGreat

/- The document's search: what it looks for, plainly. -/
namespace Go.Proofs.YtdbgeahmhfocaaaGreat
set_option linter.unusedSimpArgs false
set_option linter.unusedVariables false
set_option maxRecDepth 100000
open Go Go.RowKit
/-- An order of what is left is explained. -/
inductive Cmp (l : List Cl) (n : Nat) : List Bool → XS → Prop
  | done {D : List Bool} {X : XS} : outs l D l.length = [] → Cmp l n D X
  | step {D : List Bool} {X : XS} {i : Nat} {c : Cl} : frB l D i = true → l[i]? = some c → (xDo n X c.op).2 = c.an → Cmp l n (D.set i true) (xDo n X c.op).1 → Cmp l n D X
def und (D : List Bool) : Nat := D.count false
theorem und_set : ∀ (D : List Bool) (i : Nat), D[i]? = some false → und (D.set i true) + 1 = und D
  | [], i, h => by simp at h
  | b :: D, 0, h => by
    simp only [List.getElem?_cons_zero, Option.some.injEq] at h
    subst h
    simp [und]
  | b :: D, i + 1, h => by
    simp only [List.getElem?_cons_succ] at h
    have := und_set D i h
    simp only [und, List.set_cons_succ, List.count_cons] at this ⊢
    omega
theorem und_le (D : List Bool) : und D ≤ D.length := List.count_le_length
theorem frB_false {l : List Cl} {D : List Bool} {i : Nat} (h : frB l D i = true) (hD : D.length = l.length) : D[i]? = some false ∧ ∃ c, l[i]? = some c := by
  unfold frB at h
  cases hl : l[i]? with
  | none => rw [hl] at h; cases h
  | some c =>
    rw [hl] at h
    simp only [Bool.and_eq_true, Bool.not_eq_true'] at h
    have hi := (List.getElem?_eq_some_iff.1 hl).1
    refine ⟨?_, c, rfl⟩
    have h1 := h.1
    unfold dnB at h1
    rw [List.getD_eq_getElem?_getD, List.getElem?_eq_getElem (by omega)] at h1
    rw [List.getElem?_eq_getElem (by omega)]
    simpa using h1
theorem outs_mem {l : List Cl} {D : List Bool} {x : Int} (h : x ∈ outs l D l.length) : ∃ i : Nat, x = (i : Int) ∧ i < l.length ∧ frB l D i = true := by
  unfold outs at h
  obtain ⟨i, hi, rfl⟩ := List.mem_map.1 h
  obtain ⟨h1, h2⟩ := List.mem_filter.1 hi
  exact ⟨i, rfl, List.mem_range.1 h1, h2⟩
theorem mem_outs {l : List Cl} {D : List Bool} {i : Nat} (hi : i < l.length) (h : frB l D i = true) : (i : Int) ∈ outs l D l.length := by
  unfold outs
  exact List.mem_map.2 ⟨i, List.mem_filter.2 ⟨List.mem_range.2 hi, h⟩, rfl⟩
theorem no_cmp {l : List Cl} {n : Nat} {D : List Bool} {X : XS} (h0 : outs l D l.length ≠ []) (h1 : ∀ (i : Nat) (c : Cl), (i : Int) ∈ outs l D l.length → l[i]? = some c → (xDo n X c.op).2 = c.an → ¬ Cmp l n (D.set i true) (xDo n X c.op).1) : ¬ Cmp l n D X := by
  intro h
  cases h with
  | done h => exact h0 h
  | step hf hc ha hr => exact h1 _ _ (mem_outs (List.getElem?_eq_some_iff.1 hc).1 hf) hc ha hr
def fb : Nat → Nat
  | 0 => 1
  | m + 1 => 1 + 10 * fb m
theorem fb_pos : ∀ m, 1 ≤ fb m
  | 0 => Nat.le_refl _
  | m + 1 => by simp only [fb]; omega
/-- What does not belong to a search. -/
def NotS (y : HP) : Prop := ∀ cs, y ≠ .raw (.cells cs 122 (0, 0)) ∧ y ≠ .raw (.cells cs 4 (0, 0)) ∧ y ≠ .raw (.cells cs 9 (0, 0))
def KeepN (s s' : St) : Prop := s.n ≤ s'.n ∧ ∀ c y, s.m c = some y → NotS y → s'.m c = some y
theorem KeepN.refl (s : St) : KeepN s s := ⟨Nat.le_refl _, fun _ _ h _ => h⟩
theorem KeepN.trans {s s1 s2 : St} (h : KeepN s s1) (h1 : KeepN s1 s2) : KeepN s s2 := ⟨Nat.le_trans h.1 h1.1, fun c y hc hn => h1.2 c y (h.2 c y hc hn) hn⟩
theorem KeepN.all {s s' : St} (hn : s.n ≤ s'.n) (h : ∀ c y, s.m c = some y → s'.m c = some y) : KeepN s s' := ⟨hn, fun c y hc _ => h c y hc⟩
theorem notS_cells {cs : Array Value} {ty : TypeId} (h1 : ty ≠ 122) (h2 : ty ≠ 4) (h3 : ty ≠ 9) : NotS (.raw (.cells cs ty (0, 0))) := by
  intro c
  refine ⟨fun e => ?_, fun e => ?_, fun e => ?_⟩ <;> (injection e with e; injection e with _ e _; first | exact h1 e | exact h2 e | exact h3 e)
theorem Own.keepN {s s' : St} {ty : TypeId} {w n : Nat} {cs : List Value} {v : Value} (h : Own s ty w cs n v) (h1 : ty ≠ 122) (h2 : ty ≠ 4) (h3 : ty ≠ 9) (hk : KeepN s s') : Own s' ty w cs n v :=
  h.keep fun b x hb hx => by
    obtain ⟨_, ⟨e, _⟩ | ⟨b', cap, sp, rfl, _, hm, _⟩⟩ := h
    · subst e; cases hb
    · simp only [blk, Option.some.injEq] at hb
      subst hb
      rw [hm] at hx; cases hx
      exact hk.2 _ _ hm (notS_cells h1 h2 h3)
theorem StOk.keepN {n : Nat} {s s' : St} {X : XS} {lv qv dv : Value} {ws : List Value} (h : StOk n s X lv qv dv ws) (hk : KeepN s s') : StOk n s' X lv qv dv ws :=
  ⟨h.ol.keepN (by decide) (by decide) (by decide) hk, h.oq.keepN (by decide) (by decide) (by decide) hk, h.od.keepN (by decide) (by decide) (by decide) hk, h.lw, h.lq, h.ld, fun i w q h1 h2 => (h.hw i w q h1 h2).keepN (by decide) (by decide) (by decide) hk, h.sm, h.dd⟩
theorem Own.typ {s : St} {ty : TypeId} {w n b : Nat} {cs : List Value} {v : Value} (h : Own s ty w cs n v) (hb : blk v = some b) : ∃ c, s.m b = some (.raw (.cells c ty (0, 0))) := by
  obtain ⟨_, ⟨e, _⟩ | ⟨b', cap, sp, rfl, _, hm, _⟩⟩ := h
  · subst e; cases hb
  · simp only [blk, Option.some.injEq] at hb
    subst hb
    exact ⟨_, hm⟩
/-- What a search may lean on. -/
structure FCtx (l : List Cl) (n rm : Nat) (Rch : XS → Prop) : Prop where
  n8 : n ≤ 8
  rm16 : rm ≤ 16
  l10 : l.length ≤ 10
  kind : ∀ c ∈ l, c.op.kind = 4 ∨ c.op.kind = 5
  step : ∀ X op, Rch X → Rch (xDo n X op).1
  inj : ∀ D D' X X', D.length = l.length → D'.length = l.length → Rch X → Rch X' → skS D rm X = skS D' rm X' → D = D' ∧ X = X'
def DeadOk (l : List Cl) (n rm : Nat) (Rch : XS → Prop) (dead : List ByteArray) : Prop := ∀ k ∈ dead, ∀ D X, D.length = l.length → Rch X → skS D rm X = k → ¬ Cmp l n D X
/-- What a search's end tells. -/
structure FRes (l : List Cl) (n rm : Nat) (Rch : XS → Prop) (p : Nat) (D : List Bool) (X : XS) (dl : Nat) (lv dv : Value) (s : St) (b : Bool) (τ : St) : Prop where
  keep : KeepN s τ
  no : b = false → ¬ Cmp l n D X ∧ ∃ dead' xv', SrI τ p l D dead' lv dv xv' ∧ DeadOk l n rm Rch dead' ∧ dead'.length ≤ dl + fb (und D)
end Go.Proofs.YtdbgeahmhfocaaaGreat

/- The document's search, by a walk. -/
namespace Go.Proofs.YtdbgeahmhfocaaaGreat
set_option linter.unusedSimpArgs false
set_option linter.unusedVariables false
set_option maxRecDepth 100000
open Go Go.RowKit
def FindOk (B : World) (l : List Cl) (n rm : Nat) (Rch : XS → Prop) (m : Nat) : Prop :=
  ∀ (p : Nat) (D : List Bool) (X : XS) (dead : List ByteArray) (lv dv xv l2 qv ev : Value) (ws : List Value) (σ : St) (K : Value → St → Prop), und D = m → D.length = l.length → Rch X → SrI σ p l D dead lv dv xv → StOk n σ X l2 qv ev ws → DeadOk l n rm Rch dead → dead.length + fb (und D) ≤ 1000000000000 →
    (∀ b τ, FRes l n rm Rch p D X dead.length lv dv σ b τ → τ.wf B → K (.bool b) τ) → Fn Tryz.prog B 48 #[.pointer (some ⟨p, 0, none⟩), stV rm l2 qv ev] σ K
structure FdF (p bx : Nat) (A : Option Addr) (on C : Nat) (k : ByteArray) (e : Fr) : Prop where
  v0 : e.v 0 = .pointer (some ⟨p, 0, none⟩)
  v3 : e.v 3 = .pointer (some ⟨bx, 0, none⟩)
  v5 : e.v 5 = .slice A on C
  v6 : e.v 6 = .string k
  d : e.d = []
theorem SrI.mark {B : World} {s : St} {p : Nat} {l : List Cl} {D : List Bool} {dead : List ByteArray} {lv dv xv : Value} (h : SrI s p l D dead lv dv xv) (hwf : s.wf B) {i : Nat} (hi : i < D.length) :
    ∃ bd C sp, dv = .slice (some ⟨bd, 0, none⟩) D.length C ∧ s.m bd = some (.raw (.cells (bools D ++ sp).toArray 4 (0, 0))) ∧ i < (bools D ++ sp).length ∧
      ∀ b : Bool, SrI (s.set bd (.raw (.cells ((bools D ++ sp).set i (.bool b)).toArray 4 (0, 0)))) p l (D.set i b) dead lv dv xv ∧ KeepN s (s.set bd (.raw (.cells ((bools D ++ sp).set i (.bool b)).toArray 4 (0, 0)))) ∧ (s.set bd (.raw (.cells ((bools D ++ sp).set i (.bool b)).toArray 4 (0, 0)))).wf B := by
  obtain ⟨bd, C, sp, rfl, hC, hm, hl, _⟩ := h.od.has (by omega)
  have hkeep : ∀ b : Bool, ∀ c y, s.m c = some y → (∀ cs, y ≠ .raw (.cells cs 4 (0, 0))) → (s.set bd (.raw (.cells ((bools D ++ sp).set i (.bool b)).toArray 4 (0, 0)))).m c = some y := fun b c y hx hne => by
    have : c ≠ bd := fun e => by rw [e, hm] at hx; exact hne _ (Option.some.inj hx).symm
    rw [St.set_m_ne _ _ this]; exact hx
  refine ⟨bd, C, sp, rfl, hm, by rw [List.length_append, bools_len]; omega, fun b => ⟨⟨hkeep b _ _ h.root (fun cs e => by injection e with e; injection e with _ e; cases e), ?_, ?_, ?_⟩, ⟨Nat.le_refl _, fun c y hx hn => hkeep b c y hx fun cs => (hn cs).2.1⟩, hwf.set _ (hwf.2 _ _ hm)⟩⟩
  · refine h.ol.keep fun c y hb hx => ?_
    obtain ⟨cs, hty⟩ := h.ol.typ hb
    rw [hty] at hx; cases hx
    exact hkeep b _ _ hty (fun cs e => by injection e with e; injection e with _ e; cases e)
  · have e1 : (bools D ++ sp).set i (.bool b) = bools (D.set i b) ++ sp := by
      rw [List.set_append_left _ _ (by rw [bools_len]; exact hi)]
      simp [bools, List.map_set]
    rw [e1, ]
    have : (D.set i b).length = D.length := List.length_set
    rw [this]
    exact Own.of' (sp := sp) (by rw [St.set_m_same]) (by rw [bools_len, List.length_set]; omega) hC (by rw [List.length_append, bools_len, List.length_set]; rw [List.length_append, bools_len] at hl; exact hl)
  · refine h.ox.keep fun c y hb hx => ?_
    obtain ⟨cs, hty⟩ := h.ox.typ hb
    rw [hty] at hx; cases hx
    exact hkeep b _ _ hty (fun cs e => by injection e with e; injection e with _ e; cases e)
structure FdS (l : List Cl) (n rm : Nat) (Rch : XS → Prop) (p : Nat) (D : List Bool) (X : XS) (dl m j : Nat) (lv dv : Value) (s0 s : St) : Prop where
  sx : ∃ dead' xv', SrI s p l D dead' lv dv xv' ∧ DeadOk l n rm Rch dead' ∧ dead'.length ≤ dl + j * fb (m - 1)
  keep : KeepN s0 s
  ok : ∀ (jj ii : Nat) (c : Cl), jj < j → (outs l D l.length)[jj]? = some (ii : Int) → l[ii]? = some c → (xDo n X c.op).2 = c.an → ¬ Cmp l n (D.set ii true) (xDo n X c.op).1
theorem Own.keepT {s s' : St} {ty : TypeId} {w n : Nat} {cs : List Value} {v : Value} (h : Own s ty w cs n v) (hk : ∀ c cs, s.m c = some (.raw (.cells cs ty (0, 0))) → s'.m c = some (.raw (.cells cs ty (0, 0)))) : Own s' ty w cs n v :=
  h.keep fun b x hb hx => by
    obtain ⟨cs, hc⟩ := h.typ hb
    rw [hc] at hx; cases hx
    exact hk _ _ hc
theorem StOk.keepT {n : Nat} {s s' : St} {X : XS} {lv qv dv : Value} {ws : List Value} (h : StOk n s X lv qv dv ws) (hk : ∀ c cs ty, s.m c = some (.raw (.cells cs ty (0, 0))) → ty ≠ 37 → ty ≠ 64 → s'.m c = some (.raw (.cells cs ty (0, 0)))) : StOk n s' X lv qv dv ws :=
  ⟨h.ol.keepT fun c cs hc => hk c cs _ hc (by decide) (by decide), h.oq.keepT fun c cs hc => hk c cs _ hc (by decide) (by decide), h.od.keepT fun c cs hc => hk c cs _ hc (by decide) (by decide), h.lw, h.lq, h.ld, fun i w q h1 h2 => (h.hw i w q h1 h2).keepT fun c cs hc => hk c cs _ hc (by decide) (by decide), h.sm, h.dd⟩
structure FdB (n rm : Nat) (s4 : St) (X' : XS) (a : CAn) (Al : Option Addr) (Cl : Nat) (Ad : Option Addr) (Cd b9 b10 : Nat) (s : St) : Prop where
  ex : ∃ Aq Cq ws', s.m b9 = some (.raw (.cells #[.slice Al n Cl, .int .i64 rm, .slice Aq n Cq, .slice Ad n Cd, .slice none 0 0, .slice none 0 0, .slice none 0 0, .int .i64 0] 37 (0, 0))) ∧ StOk n s X' (.slice Al n Cl) (.slice Aq n Cq) (.slice Ad n Cd) ws'
  ans : s.m b10 = some (.raw (.cells #[.int .i64 a.err, .int .i64 a.a, .int .i64 a.b, .string a.topic, .string a.pay, .bool a.kept] 64 (0, 0)))
  keep : ∀ c y, s4.m c = some y → s.m c = some y
  n : s4.n ≤ s.n
structure FdJ (n rm p bx : Nat) (A : Option Addr) (on C : Nat) (k : ByteArray) (j : Nat) (s4 : St) (X' : XS) (a : CAn) (Al : Option Addr) (Cl : Nat) (Ad : Option Addr) (Cd b9 b10 : Nat) (e : Fr) (s : St) : Prop where
  f : FdF p bx A on C k e
  v8 : e.v 8 = .int .i64 j
  v9 : e.v 9 = .pointer (some ⟨b9, 0, none⟩)
  v10 : e.v 10 = .pointer (some ⟨b10, 0, none⟩)
  b : FdB n rm s4 X' a Al Cl Ad Cd b9 b10 s
section
variable {B : World} {σ : St} {K : Value → St → Prop}
set_option maxHeartbeats 8000000 in
theorem find_step {l : List Cl} {n rm : Nat} {Rch : XS → Prop} (hc : FCtx l n rm Rch) {m : Nat} (ih : ∀ m', m' < m → FindOk B l n rm Rch m') : FindOk B l n rm Rch m := by
  intro p D X dead lv dv xv l2 qv ev ws σ K hm hDl hX hs h hdk hdl hK
  obtain ⟨Al, Cl', rfl, hCl⟩ := h.ol.is
  obtain ⟨Aq, Cq, rfl, hCq⟩ := h.oq.is
  obtain ⟨Ad, Cd, rfl, hCd⟩ := h.od.is
  have hl10 := hc.l10
  have hfp := fb_pos (und D)
  refine Fn.of is48 (by simp) fun hwf => ?_
  have hB := hwf.1
  unfold stV
  simp only [b48, Tryz.f48, Option.getD_some]
  have key : ∀ s1, s1 = (σ.set σ.n (.raw (.cells #[.slice Al n Cl', .int .i64 rm, .slice Aq n Cq, .slice Ad n Cd, .slice none 0 0, .slice none 0 0, .slice none 0 0, .int .i64 0] 37 (0, 0)))).up (σ.n + 1) →
      (∀ c y, σ.m c = some y → s1.m c = some y) ∧ s1.m σ.n = some (.raw (.cells #[.slice Al n Cl', .int .i64 rm, .slice Aq n Cq, .slice Ad n Cd, .slice none 0 0, .slice none 0 0, .slice none 0 0, .int .i64 0] 37 (0, 0))) ∧ s1.n = σ.n + 1 ∧ s1.wf B := by
    rintro s1 rfl
    exact ⟨fun c y hx => by
      have := (hwf.2 _ _ hx).2
      simp -implicitDefEqProofs (disch := first | omega | (simp only [St.set_n, St.up_n, List.length_cons, List.length_nil]; omega)) only [go_sem, Nat.reduceAdd, Nat.reduceMul, Nat.reduceSub, Int.reduceAdd, Int.reduceMul, Int.reduceSub, Int.reduceNeg, Int.reduceToNat, hx], by simp -implicitDefEqProofs (disch := first | omega | (simp only [St.set_n, St.up_n, List.length_cons, List.length_nil]; omega)) only [go_sem, Nat.reduceAdd, Nat.reduceMul, Nat.reduceSub, Int.reduceAdd, Int.reduceMul, Int.reduceSub, Int.reduceNeg, Int.reduceToNat], rfl, set_wf1 hwf⟩
  obtain ⟨hk1, hm1, hn1, hw1⟩ := key _ rfl
  have hr0 := hs.root
  have hpn := (hwf.2 _ _ hr0).2
  simp -implicitDefEqProofs (disch := first | omega | (simp only [St.set_n, St.up_n, List.length_cons, List.length_nil]; omega)) only [go_sem, Nat.reduceAdd, Nat.reduceMul, Nat.reduceSub, Int.reduceAdd, Int.reduceMul, Int.reduceSub, Int.reduceNeg, Int.reduceToNat, hr0]
  refine effD_plan [0, 1, 3, 7, 0, 16, 48, 112, 255, 511] [0, 1, 2, 3, 4, 5, 6, 7, 9] (.eag 0 (.eag 1 (.eag 2 (.eagq 3 (.eag 4 (.eag 5 (.eag 6 (.eagq 7 (.alt 8 [] (.eag 9 .fin) .stop))))))))) (by kernel_rfl) ?_
  simp -implicitDefEqProofs (disch := first | omega | (simp only [St.set_n, St.up_n, List.length_cons, List.length_nil]; omega)) only [go_sem, Nat.reduceAdd, Nat.reduceMul, Nat.reduceSub, Int.reduceAdd, Int.reduceMul, Int.reduceSub, Int.reduceNeg, Int.reduceToNat, hr0]
  generalize (σ.set σ.n (.raw (.cells #[.slice Al n Cl', .int .i64 rm, .slice Aq n Cq, .slice Ad n Cd, .slice none 0 0, .slice none 0 0, .slice none 0 0, .int .i64 0] 37 (0, 0)))).up (σ.n + 1) = s1 at hk1 hm1 hn1 hw1 ⊢
  have hs1 := hs.keep (s' := s1) fun c o ho => hk1 c _ ho
  have h1 := h.keep (s' := s1) fun c o ho => hk1 c _ ho
  refine callF_wf (ref_minimal (l := l) (dn := D) (by omega) (by omega) (Own.sq hs1.ol hw1) hs1.od fun v' s2 o2 hk2 hb2 hn2 hw2 => ?_)
  have hk2' : ∀ c y, s1.m c = some y → s2.m c = some y := fun c y hx => by rw [hk2 c (hw1.2 _ _ hx).2]; exact hx
  have hs2 := hs1.keep (s' := s2) fun c o ho => hk2' c _ ho
  have h2 := h1.keep (s' := s2) fun c o ho => hk2' c _ ho
  have hm2 := hk2' _ _ hm1
  have hr2 := hs2.root
  obtain ⟨Ao, Co, rfl, hCo⟩ := o2.is
  have hk02 : KeepN σ s2 := KeepN.all (by omega) fun c y hx => hk2' c y (hk1 c y hx)
  by_cases h0 : (outs l D l.length).length = 0
  · simp -implicitDefEqProofs (disch := first | omega | (simp only [St.set_n, St.up_n, List.length_cons, List.length_nil]; omega)) only [go_sem, Nat.reduceAdd, Nat.reduceMul, Nat.reduceSub, Int.reduceAdd, Int.reduceMul, Int.reduceSub, Int.reduceNeg, Int.reduceToNat, h0]
    exact hK true s2 ⟨hk02, fun e => by cases e⟩ hw2
  · have h0' : ¬ (((outs l D l.length).length : Int) = 0) := by omega
    simp -implicitDefEqProofs (disch := first | omega | (simp only [St.set_n, St.up_n, List.length_cons, List.length_nil]; omega)) only [go_sem, Nat.reduceAdd, Nat.reduceMul, Nat.reduceSub, Int.reduceAdd, Int.reduceMul, Int.reduceSub, Int.reduceNeg, Int.reduceToNat, h0', hm2]
    have e0 : (.agg #[.slice Al n Cl', .int .i64 rm, .slice Aq n Cq, .slice Ad n Cd, .slice none 0 0, .slice none 0 0, .slice none 0 0, .int .i64 0] : Value) = stV rm (.slice Al n Cl') (.slice Aq n Cq) (.slice Ad n Cd) := rfl
    rw [e0]
    refine callF_wf (skey_of hs2 (by omega) h2 hc.n8 hc.rm16 fun s3 hn3 hk3 hw3 => ?_)
    have hs3 := hs2.keep (s' := s3) fun c o ho => hk3 c _ ho
    have h3 := h2.keep (s' := s3) fun c o ho => hk3 c _ ho
    have hm3 := hk3 _ _ hm2
    have hr3 := hs3.root
    have o3 := o2.keepR (σ' := s3) fun b o _ ho => hk3 _ _ ho
    have hk03 : KeepN σ s3 := hk02.trans (KeepN.all hn3 hk3)
    obtain ⟨Ax, Cx, rfl, hCx⟩ := hs3.ox.is
    simp -implicitDefEqProofs (disch := first | omega | (simp only [St.set_n, St.up_n, List.length_cons, List.length_nil]; omega)) only [go_sem, Nat.reduceAdd, Nat.reduceMul, Nat.reduceSub, Int.reduceAdd, Int.reduceMul, Int.reduceSub, Int.reduceNeg, Int.reduceToNat]
    refine loop_rule (fun m e s => ∃ i : Nat, m = dead.length - i ∧ i ≤ dead.length ∧ FdF p σ.n Ao (outs l D l.length).length Co (skS D rm X) e ∧ e.v 7 = .int .i64 i ∧ s = s3) dead.length ?_ ?_
    · exact ⟨0, by omega, by omega, ⟨by simp -implicitDefEqProofs (disch := first | omega | (simp only [St.set_n, St.up_n, List.length_cons, List.length_nil]; omega)) only [go_sem, Nat.reduceAdd, Nat.reduceMul, Nat.reduceSub, Int.reduceAdd, Int.reduceMul, Int.reduceSub, Int.reduceNeg, Int.reduceToNat], by simp -implicitDefEqProofs (disch := first | omega | (simp only [St.set_n, St.up_n, List.length_cons, List.length_nil]; omega)) only [go_sem, Nat.reduceAdd, Nat.reduceMul, Nat.reduceSub, Int.reduceAdd, Int.reduceMul, Int.reduceSub, Int.reduceNeg, Int.reduceToNat], by simp -implicitDefEqProofs (disch := first | omega | (simp only [St.set_n, St.up_n, List.length_cons, List.length_nil]; omega)) only [go_sem, Nat.reduceAdd, Nat.reduceMul, Nat.reduceSub, Int.reduceAdd, Int.reduceMul, Int.reduceSub, Int.reduceNeg, Int.reduceToNat], by simp -implicitDefEqProofs (disch := first | omega | (simp only [St.set_n, St.up_n, List.length_cons, List.length_nil]; omega)) only [go_sem, Nat.reduceAdd, Nat.reduceMul, Nat.reduceSub, Int.reduceAdd, Int.reduceMul, Int.reduceSub, Int.reduceNeg, Int.reduceToNat], by simp -implicitDefEqProofs (disch := first | omega | (simp only [St.set_n, St.up_n, List.length_cons, List.length_nil]; omega)) only [go_sem, Nat.reduceAdd, Nat.reduceMul, Nat.reduceSub, Int.reduceAdd, Int.reduceMul, Int.reduceSub, Int.reduceNeg, Int.reduceToNat]⟩, by first | (simp -implicitDefEqProofs (disch := first | omega | (simp only [St.set_n, St.up_n, List.length_cons, List.length_nil]; omega)) only [go_sem, Nat.reduceAdd, Nat.reduceMul, Nat.reduceSub, Int.reduceAdd, Int.reduceMul, Int.reduceSub, Int.reduceNeg, Int.reduceToNat]; done) | (simp -implicitDefEqProofs (disch := first | omega | (simp only [St.set_n, St.up_n, List.length_cons, List.length_nil]; omega)) only [go_sem, Nat.reduceAdd, Nat.reduceMul, Nat.reduceSub, Int.reduceAdd, Int.reduceMul, Int.reduceSub, Int.reduceNeg, Int.reduceToNat]; rfl), rfl⟩
    rintro m1 e s hws ⟨i, hmi, hi, ⟨q0, q3, q5, q6, hd⟩, q7, hss⟩
    subst hss
    by_cases hlt : (i : Int) < dead.length
    · obtain ⟨x, hx⟩ : ∃ x, dead[i]? = some x := ⟨dead[i]'(by omega), List.getElem?_eq_getElem (by omega)⟩
      obtain ⟨b, c1, sp, e1, _, mx, _, _⟩ := hs3.ox.has (by omega)
      cases e1
      have gx := strs_get hx sp
      by_cases hxk : x = skS D rm X
      · simp -implicitDefEqProofs (disch := first | omega | (simp only [St.set_n, St.up_n, List.length_cons, List.length_nil]; omega)) only [go_sem, Nat.reduceAdd, Nat.reduceMul, Nat.reduceSub, Int.reduceAdd, Int.reduceMul, Int.reduceSub, Int.reduceNeg, Int.reduceToNat, q0, q3, q5, q6, q7, hlt, hr3, mx, gx, hxk, hd]
        have hno := hdk x (List.mem_of_getElem? hx) D X hDl hX hxk.symm
        exact hK false s ⟨hk03, fun _ => ⟨hno, dead, _, hs3, hdk, by omega⟩⟩ hws
      · simp -implicitDefEqProofs (disch := first | omega | (simp only [St.set_n, St.up_n, List.length_cons, List.length_nil]; omega)) only [go_sem, Nat.reduceAdd, Nat.reduceMul, Nat.reduceSub, Int.reduceAdd, Int.reduceMul, Int.reduceSub, Int.reduceNeg, Int.reduceToNat, q0, q3, q5, q6, q7, hlt, hr3, mx, gx, hxk]
        exact ⟨dead.length - (i + 1), by omega, i + 1, rfl, by omega, ⟨by simp -implicitDefEqProofs (disch := first | omega | (simp only [St.set_n, St.up_n, List.length_cons, List.length_nil]; omega)) only [go_sem, Nat.reduceAdd, Nat.reduceMul, Nat.reduceSub, Int.reduceAdd, Int.reduceMul, Int.reduceSub, Int.reduceNeg, Int.reduceToNat, q0], by simp -implicitDefEqProofs (disch := first | omega | (simp only [St.set_n, St.up_n, List.length_cons, List.length_nil]; omega)) only [go_sem, Nat.reduceAdd, Nat.reduceMul, Nat.reduceSub, Int.reduceAdd, Int.reduceMul, Int.reduceSub, Int.reduceNeg, Int.reduceToNat, q3], by simp -implicitDefEqProofs (disch := first | omega | (simp only [St.set_n, St.up_n, List.length_cons, List.length_nil]; omega)) only [go_sem, Nat.reduceAdd, Nat.reduceMul, Nat.reduceSub, Int.reduceAdd, Int.reduceMul, Int.reduceSub, Int.reduceNeg, Int.reduceToNat, q5], by simp -implicitDefEqProofs (disch := first | omega | (simp only [St.set_n, St.up_n, List.length_cons, List.length_nil]; omega)) only [go_sem, Nat.reduceAdd, Nat.reduceMul, Nat.reduceSub, Int.reduceAdd, Int.reduceMul, Int.reduceSub, Int.reduceNeg, Int.reduceToNat, q6], by simp -implicitDefEqProofs (disch := first | omega | (simp only [St.set_n, St.up_n, List.length_cons, List.length_nil]; omega)) only [go_sem, Nat.reduceAdd, Nat.reduceMul, Nat.reduceSub, Int.reduceAdd, Int.reduceMul, Int.reduceSub, Int.reduceNeg, Int.reduceToNat, hd]⟩, by first | (simp -implicitDefEqProofs (disch := first | omega | (simp only [St.set_n, St.up_n, List.length_cons, List.length_nil]; omega)) only [go_sem, Nat.reduceAdd, Nat.reduceMul, Nat.reduceSub, Int.reduceAdd, Int.reduceMul, Int.reduceSub, Int.reduceNeg, Int.reduceToNat]; simp; done) | (simp; done)⟩
    · simp -implicitDefEqProofs (disch := first | omega | (simp only [St.set_n, St.up_n, List.length_cons, List.length_nil]; omega)) only [go_sem, Nat.reduceAdd, Nat.reduceMul, Nat.reduceSub, Int.reduceAdd, Int.reduceMul, Int.reduceSub, Int.reduceNeg, Int.reduceToNat, q0, q3, q5, q6, q7, hlt, hr3]
      have hol := outs_len l D l.length
      refine LoopS.of (SemS.loop (fun m2 e s2 => ∃ j : Nat, m2 = (outs l D l.length).length - j ∧ j ≤ (outs l D l.length).length ∧ FdF p σ.n Ao (outs l D l.length).length Co (skS D rm X) e ∧ e.v 8 = .int .i64 j ∧ FdS l n rm Rch p D X dead.length m j lv dv s s2) (outs l D l.length).length ?_ ?_)
      · exact ⟨0, by omega, by omega, ⟨by simp -implicitDefEqProofs (disch := first | omega | (simp only [St.set_n, St.up_n, List.length_cons, List.length_nil]; omega)) only [go_sem, Nat.reduceAdd, Nat.reduceMul, Nat.reduceSub, Int.reduceAdd, Int.reduceMul, Int.reduceSub, Int.reduceNeg, Int.reduceToNat, q0], by simp -implicitDefEqProofs (disch := first | omega | (simp only [St.set_n, St.up_n, List.length_cons, List.length_nil]; omega)) only [go_sem, Nat.reduceAdd, Nat.reduceMul, Nat.reduceSub, Int.reduceAdd, Int.reduceMul, Int.reduceSub, Int.reduceNeg, Int.reduceToNat, q3], by simp -implicitDefEqProofs (disch := first | omega | (simp only [St.set_n, St.up_n, List.length_cons, List.length_nil]; omega)) only [go_sem, Nat.reduceAdd, Nat.reduceMul, Nat.reduceSub, Int.reduceAdd, Int.reduceMul, Int.reduceSub, Int.reduceNeg, Int.reduceToNat, q5], by simp -implicitDefEqProofs (disch := first | omega | (simp only [St.set_n, St.up_n, List.length_cons, List.length_nil]; omega)) only [go_sem, Nat.reduceAdd, Nat.reduceMul, Nat.reduceSub, Int.reduceAdd, Int.reduceMul, Int.reduceSub, Int.reduceNeg, Int.reduceToNat, q6], by simp -implicitDefEqProofs (disch := first | omega | (simp only [St.set_n, St.up_n, List.length_cons, List.length_nil]; omega)) only [go_sem, Nat.reduceAdd, Nat.reduceMul, Nat.reduceSub, Int.reduceAdd, Int.reduceMul, Int.reduceSub, Int.reduceNeg, Int.reduceToNat, hd]⟩, by first | (simp -implicitDefEqProofs (disch := first | omega | (simp only [St.set_n, St.up_n, List.length_cons, List.length_nil]; omega)) only [go_sem, Nat.reduceAdd, Nat.reduceMul, Nat.reduceSub, Int.reduceAdd, Int.reduceMul, Int.reduceSub, Int.reduceNeg, Int.reduceToNat]; done) | (simp -implicitDefEqProofs (disch := first | omega | (simp only [St.set_n, St.up_n, List.length_cons, List.length_nil]; omega)) only [go_sem, Nat.reduceAdd, Nat.reduceMul, Nat.reduceSub, Int.reduceAdd, Int.reduceMul, Int.reduceSub, Int.reduceNeg, Int.reduceToNat]; rfl), ⟨⟨dead, _, hs3, hdk, by omega⟩, KeepN.refl _, fun jj ii c hj => by omega⟩⟩
      clear q0 q3 q5 q6 q7 hd
      rintro m2 e s4 hw4 ⟨j, hmj, hj, ⟨q0, q3, q5, q6, hd⟩, q8, ⟨⟨dead', xv', hs4, hdk', hdl'⟩, hk4, hok⟩⟩
      have hm4 := hk4.2 _ _ hm3 (notS_cells (by decide) (by decide) (by decide))
      have h4 := h3.keepN hk4
      have o4 := o3.keepN (by decide) (by decide) (by decide) hk4
      have hr4 := hs4.root
      by_cases hlt2 : (j : Int) < (outs l D l.length).length
      · obtain ⟨x, hx⟩ : ∃ x, (outs l D l.length)[j]? = some x := ⟨(outs l D l.length)[j]'(by omega), List.getElem?_eq_getElem (by omega)⟩
        obtain ⟨i2, rfl, hi2, hfr⟩ := outs_mem (List.mem_of_getElem? hx)
        obtain ⟨hDi, c, hci⟩ := frB_false hfr hDl
        have hund := und_set D i2 hDi
        obtain ⟨bo, co, spo, eo, _, mo, _, _⟩ := o4.has (by omega)
        cases eo
        have go := ints_get hx spo
        obtain ⟨bl, cl, spl, el, _, ml, _, _⟩ := hs4.ol.has (by omega)
        subst el
        have gl := cl_cells hci spl
        have hi2' : (i2 : Int) < l.length := by omega
        have e5 : (.agg #[.int .i64 c.op.kind, .int .i64 c.op.sub, .string c.op.text, .string c.op.pay, .bool c.op.keep] : Value) = .agg (fOp c.op).toArray := rfl
        have hkind := hc.kind c (List.mem_of_getElem? hci)
        have hRX := hc.step X c.op hX
        obtain ⟨X', a, hXa⟩ : ∃ X' a, xDo n X c.op = (X', a) := ⟨_, _, rfl⟩
        refine SemS.seqw fun _ => ?_
        simp -implicitDefEqProofs (disch := first | omega | (simp only [St.set_n, St.up_n, List.length_cons, List.length_nil]; omega)) only [go_sem, Nat.reduceAdd, Nat.reduceMul, Nat.reduceSub, Int.reduceAdd, Int.reduceMul, Int.reduceSub, Int.reduceNeg, Int.reduceToNat, q0, q3, q5, q6, q8, hlt2]
        refine SemS.seqs (SemS.block ?_)
        refine SemS.seq (fun e s' => ∃ b9 b10, FdJ n rm p σ.n (some ⟨bo, 0, none⟩) (outs l D l.length).length Co (skS D rm X) j s4 X' a Al Cl' Ad Cd b9 b10 e s') ?_ ?_
        · refine SemS.wp fun _ => ?_
          have bd1 := (hw4.2 _ _ hm4).2
          have bd2 := (hw4.2 _ _ hr4).2
          have bd3 := (hw4.2 _ _ mo).2
          have bd4 := (hw4.2 _ _ ml).2
          simp -implicitDefEqProofs (disch := first | omega | (simp only [St.set_n, St.up_n, List.length_cons, List.length_nil]; omega)) only [go_sem, Nat.reduceAdd, Nat.reduceMul, Nat.reduceSub, Int.reduceAdd, Int.reduceMul, Int.reduceSub, Int.reduceNeg, Int.reduceToNat, q0, q3, q5, q6, q8, hlt2, hr4, hm4, mo, go, ml, gl, hi2']
          refine effD_plan [0, 0, 2, 6, 14, 0, 0, 96, 224, 510, 1022, 2046, 4095, 8191, 16383, 16383, 0, 0, 229375, 524287] [0, 1, 2, 3, 4, 5, 6, 7, 8, 9, 10, 11, 13, 14, 15] (.eagq 0 (.eag 1 (.eag 2 (.eag 3 (.eagq 4 (.eag 5 (.eag 6 (.eag 7 (.eagq 8 (.eag 9 (.eag 10 (.eagq 11 (.alt 12 [] (.eag 13 (.eag 14 (.eag 15 (.alt 16 [0, 4, 8, 11] (.alt 17 [0, 4, 8, 11] (.alt 18 [] (.alt 19 [] .fin .stop) .stop) .stop) (.alt 17 [0, 4, 8, 11] (.alt 16 [0, 4, 8, 11] (.alt 18 [] (.alt 19 [] .fin .stop) .stop) .stop) .stop))))) (.alt 16 [0, 4, 8, 11] (.alt 12 [] (.eag 13 (.eag 14 (.eag 15 (.alt 17 [0, 4, 8, 11] (.alt 18 [] (.alt 19 [] .fin .stop) .stop) .stop)))) (.alt 17 [0, 4, 8, 11] (.alt 12 [] (.eag 13 (.eag 14 (.eag 15 (.alt 18 [] (.alt 19 [] .fin .stop) .stop)))) .stop) .stop)) (.alt 17 [0, 4, 8, 11] (.alt 12 [] (.eag 13 (.eag 14 (.eag 15 (.alt 16 [0, 4, 8, 11] (.alt 18 [] (.alt 19 [] .fin .stop) .stop) .stop)))) (.alt 16 [0, 4, 8, 11] (.alt 12 [] (.eag 13 (.eag 14 (.eag 15 (.alt 18 [] (.alt 19 [] .fin .stop) .stop)))) .stop) .stop)) .stop))))))))))))))) (by kernel_rfl) ?_
          simp -implicitDefEqProofs (disch := first | omega | (simp only [St.set_n, St.up_n, List.length_cons, List.length_nil]; omega)) only [go_sem, Nat.reduceAdd, Nat.reduceMul, Nat.reduceSub, Int.reduceAdd, Int.reduceMul, Int.reduceSub, Int.reduceNeg, Int.reduceToNat, q0, q3, q5, q6, q8, hlt2, hr4, hm4, mo, go, ml, gl, hi2']
          rw [e0, e5]
          refine ⟨?_, ⟨?_, ?_⟩, ?_, ?_⟩
          · have hkp : ∀ c y, s4.m c = some y → s4.m c = some y := fun c y ho => by
              have := (hw4.2 _ _ ho).2
              first | exact ho | simp -implicitDefEqProofs (disch := first | omega | (simp only [St.set_n, St.up_n, List.length_cons, List.length_nil]; omega)) only [go_sem, Nat.reduceAdd, Nat.reduceMul, Nat.reduceSub, Int.reduceAdd, Int.reduceMul, Int.reduceSub, Int.reduceNeg, Int.reduceToNat, ho]
            refine callF_wf (xdo_of (rm := rm) (h4.keep (s' := s4) fun c o ho => hkp c _ ho) hc.n8 hkind fun qv' ws' s5 h5 hn5 hk5 hw5 => ?_)
            rw [hXa] at h5 ⊢
            simp only at h5
            obtain ⟨Aq', Cq', rfl, _⟩ := h5.oq.is
            unfold stV
            have hks : ∀ c y, s4.m c = some y → s5.m c = some y := fun c y ho => hk5 c y (hkp c y ho)
            have r5 := hks _ _ hr4
            have m5 := hks _ _ hm4
            have mo5 := hks _ _ mo
            have ml5 := hks _ _ ml
            simp -implicitDefEqProofs (disch := first | omega | (simp only [St.set_n, St.up_n, List.length_cons, List.length_nil]; omega)) only [go_sem, Nat.reduceAdd, Nat.reduceMul, Nat.reduceSub, Int.reduceAdd, Int.reduceMul, Int.reduceSub, Int.reduceNeg, Int.reduceToNat, fAn, q0, q3, q5, q6, q8, hlt2, r5, m5, mo5, go, ml5, gl, hi2', e5]
            refine ⟨?_, ?_⟩
            · refine ⟨_, To.refl _ _, _, _, ⟨⟨by simp -implicitDefEqProofs (disch := first | omega | (simp only [St.set_n, St.up_n, List.length_cons, List.length_nil]; omega)) only [go_sem, Nat.reduceAdd, Nat.reduceMul, Nat.reduceSub, Int.reduceAdd, Int.reduceMul, Int.reduceSub, Int.reduceNeg, Int.reduceToNat, q0], by simp -implicitDefEqProofs (disch := first | omega | (simp only [St.set_n, St.up_n, List.length_cons, List.length_nil]; omega)) only [go_sem, Nat.reduceAdd, Nat.reduceMul, Nat.reduceSub, Int.reduceAdd, Int.reduceMul, Int.reduceSub, Int.reduceNeg, Int.reduceToNat, q3], by simp -implicitDefEqProofs (disch := first | omega | (simp only [St.set_n, St.up_n, List.length_cons, List.length_nil]; omega)) only [go_sem, Nat.reduceAdd, Nat.reduceMul, Nat.reduceSub, Int.reduceAdd, Int.reduceMul, Int.reduceSub, Int.reduceNeg, Int.reduceToNat, q5], by simp -implicitDefEqProofs (disch := first | omega | (simp only [St.set_n, St.up_n, List.length_cons, List.length_nil]; omega)) only [go_sem, Nat.reduceAdd, Nat.reduceMul, Nat.reduceSub, Int.reduceAdd, Int.reduceMul, Int.reduceSub, Int.reduceNeg, Int.reduceToNat, q6], by simp -implicitDefEqProofs (disch := first | omega | (simp only [St.set_n, St.up_n, List.length_cons, List.length_nil]; omega)) only [go_sem, Nat.reduceAdd, Nat.reduceMul, Nat.reduceSub, Int.reduceAdd, Int.reduceMul, Int.reduceSub, Int.reduceNeg, Int.reduceToNat, hd]⟩, by simp -implicitDefEqProofs (disch := first | omega | (simp only [St.set_n, St.up_n, List.length_cons, List.length_nil]; omega)) only [go_sem, Nat.reduceAdd, Nat.reduceMul, Nat.reduceSub, Int.reduceAdd, Int.reduceMul, Int.reduceSub, Int.reduceNeg, Int.reduceToNat, q8], by simp -implicitDefEqProofs (disch := first | omega | (simp only [St.set_n, St.up_n, List.length_cons, List.length_nil]; omega)) only [go_sem, Nat.reduceAdd, Nat.reduceMul, Nat.reduceSub, Int.reduceAdd, Int.reduceMul, Int.reduceSub, Int.reduceNeg, Int.reduceToNat]; rfl, by simp -implicitDefEqProofs (disch := first | omega | (simp only [St.set_n, St.up_n, List.length_cons, List.length_nil]; omega)) only [go_sem, Nat.reduceAdd, Nat.reduceMul, Nat.reduceSub, Int.reduceAdd, Int.reduceMul, Int.reduceSub, Int.reduceNeg, Int.reduceToNat]; rfl, ⟨⟨Aq', Cq', ws', by simp -implicitDefEqProofs (disch := first | omega | (simp only [St.set_n, St.up_n, List.length_cons, List.length_nil]; omega)) only [go_sem, Nat.reduceAdd, Nat.reduceMul, Nat.reduceSub, Int.reduceAdd, Int.reduceMul, Int.reduceSub, Int.reduceNeg, Int.reduceToNat], h5.keepT fun c cs ty ho t1 t2 => ?_⟩, by simp -implicitDefEqProofs (disch := first | omega | (simp only [St.set_n, St.up_n, List.length_cons, List.length_nil]; omega)) only [go_sem, Nat.reduceAdd, Nat.reduceMul, Nat.reduceSub, Int.reduceAdd, Int.reduceMul, Int.reduceSub, Int.reduceNeg, Int.reduceToNat], fun c y ho => ?_, ?_⟩⟩⟩
              · have hcn := (hw5.2 _ _ ho).2
                simp -implicitDefEqProofs (disch := first | omega | (simp only [St.set_n, St.up_n, List.length_cons, List.length_nil]; omega)) only [go_sem, Nat.reduceAdd, Nat.reduceMul, Nat.reduceSub, Int.reduceAdd, Int.reduceMul, Int.reduceSub, Int.reduceNeg, Int.reduceToNat, ho]
              · have hcn := (hw4.2 _ _ ho).2
                have ho5 := hks c y ho
                simp -implicitDefEqProofs (disch := first | omega | (simp only [St.set_n, St.up_n, List.length_cons, List.length_nil]; omega)) only [go_sem, Nat.reduceAdd, Nat.reduceMul, Nat.reduceSub, Int.reduceAdd, Int.reduceMul, Int.reduceSub, Int.reduceNeg, Int.reduceToNat, ho5]
              · simp only [St.up_n, St.set_n]; omega
            · refine ⟨_, To.refl _ _, _, _, ⟨⟨by simp -implicitDefEqProofs (disch := first | omega | (simp only [St.set_n, St.up_n, List.length_cons, List.length_nil]; omega)) only [go_sem, Nat.reduceAdd, Nat.reduceMul, Nat.reduceSub, Int.reduceAdd, Int.reduceMul, Int.reduceSub, Int.reduceNeg, Int.reduceToNat, q0], by simp -implicitDefEqProofs (disch := first | omega | (simp only [St.set_n, St.up_n, List.length_cons, List.length_nil]; omega)) only [go_sem, Nat.reduceAdd, Nat.reduceMul, Nat.reduceSub, Int.reduceAdd, Int.reduceMul, Int.reduceSub, Int.reduceNeg, Int.reduceToNat, q3], by simp -implicitDefEqProofs (disch := first | omega | (simp only [St.set_n, St.up_n, List.length_cons, List.length_nil]; omega)) only [go_sem, Nat.reduceAdd, Nat.reduceMul, Nat.reduceSub, Int.reduceAdd, Int.reduceMul, Int.reduceSub, Int.reduceNeg, Int.reduceToNat, q5], by simp -implicitDefEqProofs (disch := first | omega | (simp only [St.set_n, St.up_n, List.length_cons, List.length_nil]; omega)) only [go_sem, Nat.reduceAdd, Nat.reduceMul, Nat.reduceSub, Int.reduceAdd, Int.reduceMul, Int.reduceSub, Int.reduceNeg, Int.reduceToNat, q6], by simp -implicitDefEqProofs (disch := first | omega | (simp only [St.set_n, St.up_n, List.length_cons, List.length_nil]; omega)) only [go_sem, Nat.reduceAdd, Nat.reduceMul, Nat.reduceSub, Int.reduceAdd, Int.reduceMul, Int.reduceSub, Int.reduceNeg, Int.reduceToNat, hd]⟩, by simp -implicitDefEqProofs (disch := first | omega | (simp only [St.set_n, St.up_n, List.length_cons, List.length_nil]; omega)) only [go_sem, Nat.reduceAdd, Nat.reduceMul, Nat.reduceSub, Int.reduceAdd, Int.reduceMul, Int.reduceSub, Int.reduceNeg, Int.reduceToNat, q8], by simp -implicitDefEqProofs (disch := first | omega | (simp only [St.set_n, St.up_n, List.length_cons, List.length_nil]; omega)) only [go_sem, Nat.reduceAdd, Nat.reduceMul, Nat.reduceSub, Int.reduceAdd, Int.reduceMul, Int.reduceSub, Int.reduceNeg, Int.reduceToNat]; rfl, by simp -implicitDefEqProofs (disch := first | omega | (simp only [St.set_n, St.up_n, List.length_cons, List.length_nil]; omega)) only [go_sem, Nat.reduceAdd, Nat.reduceMul, Nat.reduceSub, Int.reduceAdd, Int.reduceMul, Int.reduceSub, Int.reduceNeg, Int.reduceToNat]; rfl, ⟨⟨Aq', Cq', ws', by simp -implicitDefEqProofs (disch := first | omega | (simp only [St.set_n, St.up_n, List.length_cons, List.length_nil]; omega)) only [go_sem, Nat.reduceAdd, Nat.reduceMul, Nat.reduceSub, Int.reduceAdd, Int.reduceMul, Int.reduceSub, Int.reduceNeg, Int.reduceToNat], h5.keepT fun c cs ty ho t1 t2 => ?_⟩, by simp -implicitDefEqProofs (disch := first | omega | (simp only [St.set_n, St.up_n, List.length_cons, List.length_nil]; omega)) only [go_sem, Nat.reduceAdd, Nat.reduceMul, Nat.reduceSub, Int.reduceAdd, Int.reduceMul, Int.reduceSub, Int.reduceNeg, Int.reduceToNat], fun c y ho => ?_, ?_⟩⟩⟩
              · have hcn := (hw5.2 _ _ ho).2
                simp -implicitDefEqProofs (disch := first | omega | (simp only [St.set_n, St.up_n, List.length_cons, List.length_nil]; omega)) only [go_sem, Nat.reduceAdd, Nat.reduceMul, Nat.reduceSub, Int.reduceAdd, Int.reduceMul, Int.reduceSub, Int.reduceNeg, Int.reduceToNat, ho]
              · have hcn := (hw4.2 _ _ ho).2
                have ho5 := hks c y ho
                simp -implicitDefEqProofs (disch := first | omega | (simp only [St.set_n, St.up_n, List.length_cons, List.length_nil]; omega)) only [go_sem, Nat.reduceAdd, Nat.reduceMul, Nat.reduceSub, Int.reduceAdd, Int.reduceMul, Int.reduceSub, Int.reduceNeg, Int.reduceToNat, ho5]
              · simp only [St.up_n, St.set_n]; omega
          · have hkp : ∀ c y, s4.m c = some y → ((s4.set (s4.n) (.raw (.cells #[.slice none 0 0, .int .i64 0, .slice none 0 0, .slice none 0 0, .slice none 0 0, .slice none 0 0, .slice none 0 0, .int .i64 0] 37 (0, 0)))).up (s4.n + 1)).m c = some y := fun c y ho => by
              have := (hw4.2 _ _ ho).2
              first | exact ho | simp -implicitDefEqProofs (disch := first | omega | (simp only [St.set_n, St.up_n, List.length_cons, List.length_nil]; omega)) only [go_sem, Nat.reduceAdd, Nat.reduceMul, Nat.reduceSub, Int.reduceAdd, Int.reduceMul, Int.reduceSub, Int.reduceNeg, Int.reduceToNat, ho]
            refine callF_wf (xdo_of (rm := rm) (h4.keep (s' := ((s4.set (s4.n) (.raw (.cells #[.slice none 0 0, .int .i64 0, .slice none 0 0, .slice none 0 0, .slice none 0 0, .slice none 0 0, .slice none 0 0, .int .i64 0] 37 (0, 0)))).up (s4.n + 1))) fun c o ho => hkp c _ ho) hc.n8 hkind fun qv' ws' s5 h5 hn5 hk5 hw5 => ?_)
            rw [hXa] at h5 ⊢
            simp only at h5
            obtain ⟨Aq', Cq', rfl, _⟩ := h5.oq.is
            unfold stV
            have z0 := hk5 (s4.n) (.raw (.cells #[.slice none 0 0, .int .i64 0, .slice none 0 0, .slice none 0 0, .slice none 0 0, .slice none 0 0, .slice none 0 0, .int .i64 0] 37 (0, 0))) (by simp -implicitDefEqProofs (disch := first | omega | (simp only [St.set_n, St.up_n, List.length_cons, List.length_nil]; omega)) only [go_sem, Nat.reduceAdd, Nat.reduceMul, Nat.reduceSub, Int.reduceAdd, Int.reduceMul, Int.reduceSub, Int.reduceNeg, Int.reduceToNat])
            have hks : ∀ c y, s4.m c = some y → s5.m c = some y := fun c y ho => hk5 c y (hkp c y ho)
            simp only [St.up_n] at hn5
            have r5 := hks _ _ hr4
            have m5 := hks _ _ hm4
            have mo5 := hks _ _ mo
            have ml5 := hks _ _ ml
            simp -implicitDefEqProofs (disch := first | omega | (simp only [St.set_n, St.up_n, List.length_cons, List.length_nil]; omega)) only [go_sem, Nat.reduceAdd, Nat.reduceMul, Nat.reduceSub, Int.reduceAdd, Int.reduceMul, Int.reduceSub, Int.reduceNeg, Int.reduceToNat, fAn, q0, q3, q5, q6, q8, hlt2, r5, m5, mo5, go, ml5, gl, hi2', e5, z0]
            refine ⟨_, To.refl _ _, _, _, ⟨⟨by simp -implicitDefEqProofs (disch := first | omega | (simp only [St.set_n, St.up_n, List.length_cons, List.length_nil]; omega)) only [go_sem, Nat.reduceAdd, Nat.reduceMul, Nat.reduceSub, Int.reduceAdd, Int.reduceMul, Int.reduceSub, Int.reduceNeg, Int.reduceToNat, q0], by simp -implicitDefEqProofs (disch := first | omega | (simp only [St.set_n, St.up_n, List.length_cons, List.length_nil]; omega)) only [go_sem, Nat.reduceAdd, Nat.reduceMul, Nat.reduceSub, Int.reduceAdd, Int.reduceMul, Int.reduceSub, Int.reduceNeg, Int.reduceToNat, q3], by simp -implicitDefEqProofs (disch := first | omega | (simp only [St.set_n, St.up_n, List.length_cons, List.length_nil]; omega)) only [go_sem, Nat.reduceAdd, Nat.reduceMul, Nat.reduceSub, Int.reduceAdd, Int.reduceMul, Int.reduceSub, Int.reduceNeg, Int.reduceToNat, q5], by simp -implicitDefEqProofs (disch := first | omega | (simp only [St.set_n, St.up_n, List.length_cons, List.length_nil]; omega)) only [go_sem, Nat.reduceAdd, Nat.reduceMul, Nat.reduceSub, Int.reduceAdd, Int.reduceMul, Int.reduceSub, Int.reduceNeg, Int.reduceToNat, q6], by simp -implicitDefEqProofs (disch := first | omega | (simp only [St.set_n, St.up_n, List.length_cons, List.length_nil]; omega)) only [go_sem, Nat.reduceAdd, Nat.reduceMul, Nat.reduceSub, Int.reduceAdd, Int.reduceMul, Int.reduceSub, Int.reduceNeg, Int.reduceToNat, hd]⟩, by simp -implicitDefEqProofs (disch := first | omega | (simp only [St.set_n, St.up_n, List.length_cons, List.length_nil]; omega)) only [go_sem, Nat.reduceAdd, Nat.reduceMul, Nat.reduceSub, Int.reduceAdd, Int.reduceMul, Int.reduceSub, Int.reduceNeg, Int.reduceToNat, q8], by simp -implicitDefEqProofs (disch := first | omega | (simp only [St.set_n, St.up_n, List.length_cons, List.length_nil]; omega)) only [go_sem, Nat.reduceAdd, Nat.reduceMul, Nat.reduceSub, Int.reduceAdd, Int.reduceMul, Int.reduceSub, Int.reduceNeg, Int.reduceToNat]; rfl, by simp -implicitDefEqProofs (disch := first | omega | (simp only [St.set_n, St.up_n, List.length_cons, List.length_nil]; omega)) only [go_sem, Nat.reduceAdd, Nat.reduceMul, Nat.reduceSub, Int.reduceAdd, Int.reduceMul, Int.reduceSub, Int.reduceNeg, Int.reduceToNat]; rfl, ⟨⟨Aq', Cq', ws', by simp -implicitDefEqProofs (disch := first | omega | (simp only [St.set_n, St.up_n, List.length_cons, List.length_nil]; omega)) only [go_sem, Nat.reduceAdd, Nat.reduceMul, Nat.reduceSub, Int.reduceAdd, Int.reduceMul, Int.reduceSub, Int.reduceNeg, Int.reduceToNat], h5.keepT fun c cs ty ho t1 t2 => ?_⟩, by simp -implicitDefEqProofs (disch := first | omega | (simp only [St.set_n, St.up_n, List.length_cons, List.length_nil]; omega)) only [go_sem, Nat.reduceAdd, Nat.reduceMul, Nat.reduceSub, Int.reduceAdd, Int.reduceMul, Int.reduceSub, Int.reduceNeg, Int.reduceToNat], fun c y ho => ?_, ?_⟩⟩⟩
            · have hcn := (hw5.2 _ _ ho).2
              have hne0 := ne_of ho z0 (fun e => by injection e with e; injection e with _ e _; exact t1 e)
              simp -implicitDefEqProofs (disch := first | omega | (simp only [St.set_n, St.up_n, List.length_cons, List.length_nil]; omega)) only [go_sem, Nat.reduceAdd, Nat.reduceMul, Nat.reduceSub, Int.reduceAdd, Int.reduceMul, Int.reduceSub, Int.reduceNeg, Int.reduceToNat, ho]
            · have hcn := (hw4.2 _ _ ho).2
              have ho5 := hks c y ho
              simp -implicitDefEqProofs (disch := first | omega | (simp only [St.set_n, St.up_n, List.length_cons, List.length_nil]; omega)) only [go_sem, Nat.reduceAdd, Nat.reduceMul, Nat.reduceSub, Int.reduceAdd, Int.reduceMul, Int.reduceSub, Int.reduceNeg, Int.reduceToNat, ho5]
            · simp only [St.up_n, St.set_n]; omega
          · have hkp : ∀ c y, s4.m c = some y → (((s4.set (s4.n) (.raw (.cells #[.slice none 0 0, .int .i64 0, .slice none 0 0, .slice none 0 0, .slice none 0 0, .slice none 0 0, .slice none 0 0, .int .i64 0] 37 (0, 0)))).set (s4.n + 1) (.raw (.cells #[.int .i64 0, .int .i64 0, .int .i64 0, .string ⟨#[]⟩, .string ⟨#[]⟩, .bool false] 64 (0, 0)))).up (s4.n + 1 + 1)).m c = some y := fun c y ho => by
              have := (hw4.2 _ _ ho).2
              first | exact ho | simp -implicitDefEqProofs (disch := first | omega | (simp only [St.set_n, St.up_n, List.length_cons, List.length_nil]; omega)) only [go_sem, Nat.reduceAdd, Nat.reduceMul, Nat.reduceSub, Int.reduceAdd, Int.reduceMul, Int.reduceSub, Int.reduceNeg, Int.reduceToNat, ho]
            refine callF_wf (xdo_of (rm := rm) (h4.keep (s' := (((s4.set (s4.n) (.raw (.cells #[.slice none 0 0, .int .i64 0, .slice none 0 0, .slice none 0 0, .slice none 0 0, .slice none 0 0, .slice none 0 0, .int .i64 0] 37 (0, 0)))).set (s4.n + 1) (.raw (.cells #[.int .i64 0, .int .i64 0, .int .i64 0, .string ⟨#[]⟩, .string ⟨#[]⟩, .bool false] 64 (0, 0)))).up (s4.n + 1 + 1))) fun c o ho => hkp c _ ho) hc.n8 hkind fun qv' ws' s5 h5 hn5 hk5 hw5 => ?_)
            rw [hXa] at h5 ⊢
            simp only at h5
            obtain ⟨Aq', Cq', rfl, _⟩ := h5.oq.is
            unfold stV
            have z0 := hk5 (s4.n) (.raw (.cells #[.slice none 0 0, .int .i64 0, .slice none 0 0, .slice none 0 0, .slice none 0 0, .slice none 0 0, .slice none 0 0, .int .i64 0] 37 (0, 0))) (by simp -implicitDefEqProofs (disch := first | omega | (simp only [St.set_n, St.up_n, List.length_cons, List.length_nil]; omega)) only [go_sem, Nat.reduceAdd, Nat.reduceMul, Nat.reduceSub, Int.reduceAdd, Int.reduceMul, Int.reduceSub, Int.reduceNeg, Int.reduceToNat])
            have z1 := hk5 (s4.n + 1) (.raw (.cells #[.int .i64 0, .int .i64 0, .int .i64 0, .string ⟨#[]⟩, .string ⟨#[]⟩, .bool false] 64 (0, 0))) (by simp -implicitDefEqProofs (disch := first | omega | (simp only [St.set_n, St.up_n, List.length_cons, List.length_nil]; omega)) only [go_sem, Nat.reduceAdd, Nat.reduceMul, Nat.reduceSub, Int.reduceAdd, Int.reduceMul, Int.reduceSub, Int.reduceNeg, Int.reduceToNat])
            have hks : ∀ c y, s4.m c = some y → s5.m c = some y := fun c y ho => hk5 c y (hkp c y ho)
            simp only [St.up_n] at hn5
            have r5 := hks _ _ hr4
            have m5 := hks _ _ hm4
            have mo5 := hks _ _ mo
            have ml5 := hks _ _ ml
            simp -implicitDefEqProofs (disch := first | omega | (simp only [St.set_n, St.up_n, List.length_cons, List.length_nil]; omega)) only [go_sem, Nat.reduceAdd, Nat.reduceMul, Nat.reduceSub, Int.reduceAdd, Int.reduceMul, Int.reduceSub, Int.reduceNeg, Int.reduceToNat, fAn, q0, q3, q5, q6, q8, hlt2, r5, m5, mo5, go, ml5, gl, hi2', e5, z0, z1]
            refine ⟨_, To.refl _ _, _, _, ⟨⟨by simp -implicitDefEqProofs (disch := first | omega | (simp only [St.set_n, St.up_n, List.length_cons, List.length_nil]; omega)) only [go_sem, Nat.reduceAdd, Nat.reduceMul, Nat.reduceSub, Int.reduceAdd, Int.reduceMul, Int.reduceSub, Int.reduceNeg, Int.reduceToNat, q0], by simp -implicitDefEqProofs (disch := first | omega | (simp only [St.set_n, St.up_n, List.length_cons, List.length_nil]; omega)) only [go_sem, Nat.reduceAdd, Nat.reduceMul, Nat.reduceSub, Int.reduceAdd, Int.reduceMul, Int.reduceSub, Int.reduceNeg, Int.reduceToNat, q3], by simp -implicitDefEqProofs (disch := first | omega | (simp only [St.set_n, St.up_n, List.length_cons, List.length_nil]; omega)) only [go_sem, Nat.reduceAdd, Nat.reduceMul, Nat.reduceSub, Int.reduceAdd, Int.reduceMul, Int.reduceSub, Int.reduceNeg, Int.reduceToNat, q5], by simp -implicitDefEqProofs (disch := first | omega | (simp only [St.set_n, St.up_n, List.length_cons, List.length_nil]; omega)) only [go_sem, Nat.reduceAdd, Nat.reduceMul, Nat.reduceSub, Int.reduceAdd, Int.reduceMul, Int.reduceSub, Int.reduceNeg, Int.reduceToNat, q6], by simp -implicitDefEqProofs (disch := first | omega | (simp only [St.set_n, St.up_n, List.length_cons, List.length_nil]; omega)) only [go_sem, Nat.reduceAdd, Nat.reduceMul, Nat.reduceSub, Int.reduceAdd, Int.reduceMul, Int.reduceSub, Int.reduceNeg, Int.reduceToNat, hd]⟩, by simp -implicitDefEqProofs (disch := first | omega | (simp only [St.set_n, St.up_n, List.length_cons, List.length_nil]; omega)) only [go_sem, Nat.reduceAdd, Nat.reduceMul, Nat.reduceSub, Int.reduceAdd, Int.reduceMul, Int.reduceSub, Int.reduceNeg, Int.reduceToNat, q8], by simp -implicitDefEqProofs (disch := first | omega | (simp only [St.set_n, St.up_n, List.length_cons, List.length_nil]; omega)) only [go_sem, Nat.reduceAdd, Nat.reduceMul, Nat.reduceSub, Int.reduceAdd, Int.reduceMul, Int.reduceSub, Int.reduceNeg, Int.reduceToNat]; rfl, by simp -implicitDefEqProofs (disch := first | omega | (simp only [St.set_n, St.up_n, List.length_cons, List.length_nil]; omega)) only [go_sem, Nat.reduceAdd, Nat.reduceMul, Nat.reduceSub, Int.reduceAdd, Int.reduceMul, Int.reduceSub, Int.reduceNeg, Int.reduceToNat]; rfl, ⟨⟨Aq', Cq', ws', by simp -implicitDefEqProofs (disch := first | omega | (simp only [St.set_n, St.up_n, List.length_cons, List.length_nil]; omega)) only [go_sem, Nat.reduceAdd, Nat.reduceMul, Nat.reduceSub, Int.reduceAdd, Int.reduceMul, Int.reduceSub, Int.reduceNeg, Int.reduceToNat], h5.keepT fun c cs ty ho t1 t2 => ?_⟩, by simp -implicitDefEqProofs (disch := first | omega | (simp only [St.set_n, St.up_n, List.length_cons, List.length_nil]; omega)) only [go_sem, Nat.reduceAdd, Nat.reduceMul, Nat.reduceSub, Int.reduceAdd, Int.reduceMul, Int.reduceSub, Int.reduceNeg, Int.reduceToNat], fun c y ho => ?_, ?_⟩⟩⟩
            · have hcn := (hw5.2 _ _ ho).2
              have hne0 := ne_of ho z0 (fun e => by injection e with e; injection e with _ e _; exact t1 e)
              have hne1 := ne_of ho z1 (fun e => by injection e with e; injection e with _ e _; exact t2 e)
              simp -implicitDefEqProofs (disch := first | omega | (simp only [St.set_n, St.up_n, List.length_cons, List.length_nil]; omega)) only [go_sem, Nat.reduceAdd, Nat.reduceMul, Nat.reduceSub, Int.reduceAdd, Int.reduceMul, Int.reduceSub, Int.reduceNeg, Int.reduceToNat, ho]
            · have hcn := (hw4.2 _ _ ho).2
              have ho5 := hks c y ho
              simp -implicitDefEqProofs (disch := first | omega | (simp only [St.set_n, St.up_n, List.length_cons, List.length_nil]; omega)) only [go_sem, Nat.reduceAdd, Nat.reduceMul, Nat.reduceSub, Int.reduceAdd, Int.reduceMul, Int.reduceSub, Int.reduceNeg, Int.reduceToNat, ho5]
            · simp only [St.up_n, St.set_n]; omega
          · have hkp : ∀ c y, s4.m c = some y → ((s4.set (s4.n) (.raw (.cells #[.int .i64 0, .int .i64 0, .int .i64 0, .string ⟨#[]⟩, .string ⟨#[]⟩, .bool false] 64 (0, 0)))).up (s4.n + 1)).m c = some y := fun c y ho => by
              have := (hw4.2 _ _ ho).2
              first | exact ho | simp -implicitDefEqProofs (disch := first | omega | (simp only [St.set_n, St.up_n, List.length_cons, List.length_nil]; omega)) only [go_sem, Nat.reduceAdd, Nat.reduceMul, Nat.reduceSub, Int.reduceAdd, Int.reduceMul, Int.reduceSub, Int.reduceNeg, Int.reduceToNat, ho]
            refine callF_wf (xdo_of (rm := rm) (h4.keep (s' := ((s4.set (s4.n) (.raw (.cells #[.int .i64 0, .int .i64 0, .int .i64 0, .string ⟨#[]⟩, .string ⟨#[]⟩, .bool false] 64 (0, 0)))).up (s4.n + 1))) fun c o ho => hkp c _ ho) hc.n8 hkind fun qv' ws' s5 h5 hn5 hk5 hw5 => ?_)
            rw [hXa] at h5 ⊢
            simp only at h5
            obtain ⟨Aq', Cq', rfl, _⟩ := h5.oq.is
            unfold stV
            have z0 := hk5 (s4.n) (.raw (.cells #[.int .i64 0, .int .i64 0, .int .i64 0, .string ⟨#[]⟩, .string ⟨#[]⟩, .bool false] 64 (0, 0))) (by simp -implicitDefEqProofs (disch := first | omega | (simp only [St.set_n, St.up_n, List.length_cons, List.length_nil]; omega)) only [go_sem, Nat.reduceAdd, Nat.reduceMul, Nat.reduceSub, Int.reduceAdd, Int.reduceMul, Int.reduceSub, Int.reduceNeg, Int.reduceToNat])
            have hks : ∀ c y, s4.m c = some y → s5.m c = some y := fun c y ho => hk5 c y (hkp c y ho)
            simp only [St.up_n] at hn5
            have r5 := hks _ _ hr4
            have m5 := hks _ _ hm4
            have mo5 := hks _ _ mo
            have ml5 := hks _ _ ml
            simp -implicitDefEqProofs (disch := first | omega | (simp only [St.set_n, St.up_n, List.length_cons, List.length_nil]; omega)) only [go_sem, Nat.reduceAdd, Nat.reduceMul, Nat.reduceSub, Int.reduceAdd, Int.reduceMul, Int.reduceSub, Int.reduceNeg, Int.reduceToNat, fAn, q0, q3, q5, q6, q8, hlt2, r5, m5, mo5, go, ml5, gl, hi2', e5, z0]
            refine ⟨_, To.refl _ _, _, _, ⟨⟨by simp -implicitDefEqProofs (disch := first | omega | (simp only [St.set_n, St.up_n, List.length_cons, List.length_nil]; omega)) only [go_sem, Nat.reduceAdd, Nat.reduceMul, Nat.reduceSub, Int.reduceAdd, Int.reduceMul, Int.reduceSub, Int.reduceNeg, Int.reduceToNat, q0], by simp -implicitDefEqProofs (disch := first | omega | (simp only [St.set_n, St.up_n, List.length_cons, List.length_nil]; omega)) only [go_sem, Nat.reduceAdd, Nat.reduceMul, Nat.reduceSub, Int.reduceAdd, Int.reduceMul, Int.reduceSub, Int.reduceNeg, Int.reduceToNat, q3], by simp -implicitDefEqProofs (disch := first | omega | (simp only [St.set_n, St.up_n, List.length_cons, List.length_nil]; omega)) only [go_sem, Nat.reduceAdd, Nat.reduceMul, Nat.reduceSub, Int.reduceAdd, Int.reduceMul, Int.reduceSub, Int.reduceNeg, Int.reduceToNat, q5], by simp -implicitDefEqProofs (disch := first | omega | (simp only [St.set_n, St.up_n, List.length_cons, List.length_nil]; omega)) only [go_sem, Nat.reduceAdd, Nat.reduceMul, Nat.reduceSub, Int.reduceAdd, Int.reduceMul, Int.reduceSub, Int.reduceNeg, Int.reduceToNat, q6], by simp -implicitDefEqProofs (disch := first | omega | (simp only [St.set_n, St.up_n, List.length_cons, List.length_nil]; omega)) only [go_sem, Nat.reduceAdd, Nat.reduceMul, Nat.reduceSub, Int.reduceAdd, Int.reduceMul, Int.reduceSub, Int.reduceNeg, Int.reduceToNat, hd]⟩, by simp -implicitDefEqProofs (disch := first | omega | (simp only [St.set_n, St.up_n, List.length_cons, List.length_nil]; omega)) only [go_sem, Nat.reduceAdd, Nat.reduceMul, Nat.reduceSub, Int.reduceAdd, Int.reduceMul, Int.reduceSub, Int.reduceNeg, Int.reduceToNat, q8], by simp -implicitDefEqProofs (disch := first | omega | (simp only [St.set_n, St.up_n, List.length_cons, List.length_nil]; omega)) only [go_sem, Nat.reduceAdd, Nat.reduceMul, Nat.reduceSub, Int.reduceAdd, Int.reduceMul, Int.reduceSub, Int.reduceNeg, Int.reduceToNat]; rfl, by simp -implicitDefEqProofs (disch := first | omega | (simp only [St.set_n, St.up_n, List.length_cons, List.length_nil]; omega)) only [go_sem, Nat.reduceAdd, Nat.reduceMul, Nat.reduceSub, Int.reduceAdd, Int.reduceMul, Int.reduceSub, Int.reduceNeg, Int.reduceToNat]; rfl, ⟨⟨Aq', Cq', ws', by simp -implicitDefEqProofs (disch := first | omega | (simp only [St.set_n, St.up_n, List.length_cons, List.length_nil]; omega)) only [go_sem, Nat.reduceAdd, Nat.reduceMul, Nat.reduceSub, Int.reduceAdd, Int.reduceMul, Int.reduceSub, Int.reduceNeg, Int.reduceToNat], h5.keepT fun c cs ty ho t1 t2 => ?_⟩, by simp -implicitDefEqProofs (disch := first | omega | (simp only [St.set_n, St.up_n, List.length_cons, List.length_nil]; omega)) only [go_sem, Nat.reduceAdd, Nat.reduceMul, Nat.reduceSub, Int.reduceAdd, Int.reduceMul, Int.reduceSub, Int.reduceNeg, Int.reduceToNat], fun c y ho => ?_, ?_⟩⟩⟩
            · have hcn := (hw5.2 _ _ ho).2
              have hne0 := ne_of ho z0 (fun e => by injection e with e; injection e with _ e _; exact t2 e)
              simp -implicitDefEqProofs (disch := first | omega | (simp only [St.set_n, St.up_n, List.length_cons, List.length_nil]; omega)) only [go_sem, Nat.reduceAdd, Nat.reduceMul, Nat.reduceSub, Int.reduceAdd, Int.reduceMul, Int.reduceSub, Int.reduceNeg, Int.reduceToNat, ho]
            · have hcn := (hw4.2 _ _ ho).2
              have ho5 := hks c y ho
              simp -implicitDefEqProofs (disch := first | omega | (simp only [St.set_n, St.up_n, List.length_cons, List.length_nil]; omega)) only [go_sem, Nat.reduceAdd, Nat.reduceMul, Nat.reduceSub, Int.reduceAdd, Int.reduceMul, Int.reduceSub, Int.reduceNeg, Int.reduceToNat, ho5]
            · simp only [St.up_n, St.set_n]; omega
          · have hkp : ∀ c y, s4.m c = some y → (((s4.set (s4.n) (.raw (.cells #[.int .i64 0, .int .i64 0, .int .i64 0, .string ⟨#[]⟩, .string ⟨#[]⟩, .bool false] 64 (0, 0)))).set (s4.n + 1) (.raw (.cells #[.slice none 0 0, .int .i64 0, .slice none 0 0, .slice none 0 0, .slice none 0 0, .slice none 0 0, .slice none 0 0, .int .i64 0] 37 (0, 0)))).up (s4.n + 1 + 1)).m c = some y := fun c y ho => by
              have := (hw4.2 _ _ ho).2
              first | exact ho | simp -implicitDefEqProofs (disch := first | omega | (simp only [St.set_n, St.up_n, List.length_cons, List.length_nil]; omega)) only [go_sem, Nat.reduceAdd, Nat.reduceMul, Nat.reduceSub, Int.reduceAdd, Int.reduceMul, Int.reduceSub, Int.reduceNeg, Int.reduceToNat, ho]
            refine callF_wf (xdo_of (rm := rm) (h4.keep (s' := (((s4.set (s4.n) (.raw (.cells #[.int .i64 0, .int .i64 0, .int .i64 0, .string ⟨#[]⟩, .string ⟨#[]⟩, .bool false] 64 (0, 0)))).set (s4.n + 1) (.raw (.cells #[.slice none 0 0, .int .i64 0, .slice none 0 0, .slice none 0 0, .slice none 0 0, .slice none 0 0, .slice none 0 0, .int .i64 0] 37 (0, 0)))).up (s4.n + 1 + 1))) fun c o ho => hkp c _ ho) hc.n8 hkind fun qv' ws' s5 h5 hn5 hk5 hw5 => ?_)
            rw [hXa] at h5 ⊢
            simp only at h5
            obtain ⟨Aq', Cq', rfl, _⟩ := h5.oq.is
            unfold stV
            have z0 := hk5 (s4.n) (.raw (.cells #[.int .i64 0, .int .i64 0, .int .i64 0, .string ⟨#[]⟩, .string ⟨#[]⟩, .bool false] 64 (0, 0))) (by simp -implicitDefEqProofs (disch := first | omega | (simp only [St.set_n, St.up_n, List.length_cons, List.length_nil]; omega)) only [go_sem, Nat.reduceAdd, Nat.reduceMul, Nat.reduceSub, Int.reduceAdd, Int.reduceMul, Int.reduceSub, Int.reduceNeg, Int.reduceToNat])
            have z1 := hk5 (s4.n + 1) (.raw (.cells #[.slice none 0 0, .int .i64 0, .slice none 0 0, .slice none 0 0, .slice none 0 0, .slice none 0 0, .slice none 0 0, .int .i64 0] 37 (0, 0))) (by simp -implicitDefEqProofs (disch := first | omega | (simp only [St.set_n, St.up_n, List.length_cons, List.length_nil]; omega)) only [go_sem, Nat.reduceAdd, Nat.reduceMul, Nat.reduceSub, Int.reduceAdd, Int.reduceMul, Int.reduceSub, Int.reduceNeg, Int.reduceToNat])
            have hks : ∀ c y, s4.m c = some y → s5.m c = some y := fun c y ho => hk5 c y (hkp c y ho)
            simp only [St.up_n] at hn5
            have r5 := hks _ _ hr4
            have m5 := hks _ _ hm4
            have mo5 := hks _ _ mo
            have ml5 := hks _ _ ml
            simp -implicitDefEqProofs (disch := first | omega | (simp only [St.set_n, St.up_n, List.length_cons, List.length_nil]; omega)) only [go_sem, Nat.reduceAdd, Nat.reduceMul, Nat.reduceSub, Int.reduceAdd, Int.reduceMul, Int.reduceSub, Int.reduceNeg, Int.reduceToNat, fAn, q0, q3, q5, q6, q8, hlt2, r5, m5, mo5, go, ml5, gl, hi2', e5, z0, z1]
            refine ⟨_, To.refl _ _, _, _, ⟨⟨by simp -implicitDefEqProofs (disch := first | omega | (simp only [St.set_n, St.up_n, List.length_cons, List.length_nil]; omega)) only [go_sem, Nat.reduceAdd, Nat.reduceMul, Nat.reduceSub, Int.reduceAdd, Int.reduceMul, Int.reduceSub, Int.reduceNeg, Int.reduceToNat, q0], by simp -implicitDefEqProofs (disch := first | omega | (simp only [St.set_n, St.up_n, List.length_cons, List.length_nil]; omega)) only [go_sem, Nat.reduceAdd, Nat.reduceMul, Nat.reduceSub, Int.reduceAdd, Int.reduceMul, Int.reduceSub, Int.reduceNeg, Int.reduceToNat, q3], by simp -implicitDefEqProofs (disch := first | omega | (simp only [St.set_n, St.up_n, List.length_cons, List.length_nil]; omega)) only [go_sem, Nat.reduceAdd, Nat.reduceMul, Nat.reduceSub, Int.reduceAdd, Int.reduceMul, Int.reduceSub, Int.reduceNeg, Int.reduceToNat, q5], by simp -implicitDefEqProofs (disch := first | omega | (simp only [St.set_n, St.up_n, List.length_cons, List.length_nil]; omega)) only [go_sem, Nat.reduceAdd, Nat.reduceMul, Nat.reduceSub, Int.reduceAdd, Int.reduceMul, Int.reduceSub, Int.reduceNeg, Int.reduceToNat, q6], by simp -implicitDefEqProofs (disch := first | omega | (simp only [St.set_n, St.up_n, List.length_cons, List.length_nil]; omega)) only [go_sem, Nat.reduceAdd, Nat.reduceMul, Nat.reduceSub, Int.reduceAdd, Int.reduceMul, Int.reduceSub, Int.reduceNeg, Int.reduceToNat, hd]⟩, by simp -implicitDefEqProofs (disch := first | omega | (simp only [St.set_n, St.up_n, List.length_cons, List.length_nil]; omega)) only [go_sem, Nat.reduceAdd, Nat.reduceMul, Nat.reduceSub, Int.reduceAdd, Int.reduceMul, Int.reduceSub, Int.reduceNeg, Int.reduceToNat, q8], by simp -implicitDefEqProofs (disch := first | omega | (simp only [St.set_n, St.up_n, List.length_cons, List.length_nil]; omega)) only [go_sem, Nat.reduceAdd, Nat.reduceMul, Nat.reduceSub, Int.reduceAdd, Int.reduceMul, Int.reduceSub, Int.reduceNeg, Int.reduceToNat]; rfl, by simp -implicitDefEqProofs (disch := first | omega | (simp only [St.set_n, St.up_n, List.length_cons, List.length_nil]; omega)) only [go_sem, Nat.reduceAdd, Nat.reduceMul, Nat.reduceSub, Int.reduceAdd, Int.reduceMul, Int.reduceSub, Int.reduceNeg, Int.reduceToNat]; rfl, ⟨⟨Aq', Cq', ws', by simp -implicitDefEqProofs (disch := first | omega | (simp only [St.set_n, St.up_n, List.length_cons, List.length_nil]; omega)) only [go_sem, Nat.reduceAdd, Nat.reduceMul, Nat.reduceSub, Int.reduceAdd, Int.reduceMul, Int.reduceSub, Int.reduceNeg, Int.reduceToNat], h5.keepT fun c cs ty ho t1 t2 => ?_⟩, by simp -implicitDefEqProofs (disch := first | omega | (simp only [St.set_n, St.up_n, List.length_cons, List.length_nil]; omega)) only [go_sem, Nat.reduceAdd, Nat.reduceMul, Nat.reduceSub, Int.reduceAdd, Int.reduceMul, Int.reduceSub, Int.reduceNeg, Int.reduceToNat], fun c y ho => ?_, ?_⟩⟩⟩
            · have hcn := (hw5.2 _ _ ho).2
              have hne0 := ne_of ho z0 (fun e => by injection e with e; injection e with _ e _; exact t2 e)
              have hne1 := ne_of ho z1 (fun e => by injection e with e; injection e with _ e _; exact t1 e)
              simp -implicitDefEqProofs (disch := first | omega | (simp only [St.set_n, St.up_n, List.length_cons, List.length_nil]; omega)) only [go_sem, Nat.reduceAdd, Nat.reduceMul, Nat.reduceSub, Int.reduceAdd, Int.reduceMul, Int.reduceSub, Int.reduceNeg, Int.reduceToNat, ho]
            · have hcn := (hw4.2 _ _ ho).2
              have ho5 := hks c y ho
              simp -implicitDefEqProofs (disch := first | omega | (simp only [St.set_n, St.up_n, List.length_cons, List.length_nil]; omega)) only [go_sem, Nat.reduceAdd, Nat.reduceMul, Nat.reduceSub, Int.reduceAdd, Int.reduceMul, Int.reduceSub, Int.reduceNeg, Int.reduceToNat, ho5]
            · simp only [St.up_n, St.set_n]; omega
        · clear q0 q3 q5 q6 q8 hd
          rintro e s5 hw5 ⟨b9, b10, ⟨⟨q0, q3, q5, q6, hd⟩, q8, q9, q10, ⟨⟨Aq', Cq', ws', hm9, h5⟩, hm10, hk5, hn5⟩⟩⟩
          have hs5 := hs4.keep (s' := s5) fun c o ho => hk5 c _ ho
          have hr5 := hs5.root
          have mo5 := hk5 _ _ mo
          have ml5 := hk5 _ _ ml
          have hk35 : KeepN s s5 := hk4.trans (KeepN.all hn5 hk5)
          have hm' : m = und D := hm.symm
          have hfbm : fb m = 1 + 10 * fb (m - 1) := by
            obtain ⟨m', rfl⟩ : ∃ m', m = m' + 1 := ⟨m - 1, by omega⟩
            rfl
          have hj9 : j + 1 ≤ 10 := by omega
          have hmul : (j + 1) * fb (m - 1) ≤ 10 * fb (m - 1) := Nat.mul_le_mul_right _ hj9
          have hmul1 : (j + 1) * fb (m - 1) = j * fb (m - 1) + fb (m - 1) := by rw [Nat.add_mul, Nat.one_mul]
          rw [hm] at hdl
          have hne := neq_ans a c.an
          simp only [fAn] at hne
          have hnext : ∀ dead2 xv2 s9, SrI s9 p l D dead2 (.slice (some ⟨bl, 0, none⟩) l.length cl) dv xv2 → DeadOk l n rm Rch dead2 → dead2.length ≤ dead.length + (j + 1) * fb (m - 1) → KeepN s s9 → (a = c.an → ¬ Cmp l n (D.set i2 true) X') → FdS l n rm Rch p D X dead.length m (j + 1) (.slice (some ⟨bl, 0, none⟩) l.length cl) dv s s9 := fun dead2 xv2 s9 z1 z2 z3 z4 z5 =>
            ⟨⟨dead2, xv2, z1, z2, z3⟩, z4, fun jj ii c' hjj hoj hlc hac => by
              by_cases e : jj = j
              · subst e
                rw [hx] at hoj
                have : i2 = ii := by
                  simp only [Option.some.injEq] at hoj
                  omega
                subst this
                rw [hci] at hlc
                cases hlc
                rw [hXa] at hac ⊢
                exact z5 hac
              · exact hok jj ii c' (by omega) hoj hlc hac⟩
          refine SemS.wp fun _ => ?_
          by_cases hac : a = c.an
          · rw [decide_eq_false (not_not_intro hac)] at hne
            obtain ⟨bd, Cd2, spd, rfl, mbd, hidl, hmark⟩ := hs5.mark hw5 (i := i2) (by omega)
            obtain ⟨hs6, hk6, hw6⟩ := hmark true
            have hi2d : (i2 : Int) < D.length := by omega
            simp -implicitDefEqProofs (disch := first | omega | (simp only [St.set_n, St.up_n, List.length_cons, List.length_nil]; omega)) only [go_sem, Nat.reduceAdd, Nat.reduceMul, Nat.reduceSub, Int.reduceAdd, Int.reduceMul, Int.reduceSub, Int.reduceNeg, Int.reduceToNat, q0, q3, q5, q6, q8, q9, q10, hr5, hm9, hm10, mo5, go, ml5, gl, hi2', hlt2, hne, mbd, hidl, hi2d]
            refine effD_plan [0, 1, 3, 7, 0, 0, 48, 112, 255, 511] [0, 1, 2, 3, 4, 5, 6, 7, 8] (.eag 0 (.eag 1 (.eag 2 (.eagq 3 (.eag 4 (.eag 5 (.eag 6 (.eagq 7 (.eag 8 (.alt 9 [] .fin .stop)))))))))) (by kernel_rfl) ?_
            have hn56 : (s5.set bd (.raw (.cells ((bools D ++ spd).set i2 (.bool true)).toArray 4 (0, 0)))).n = s5.n := rfl
            generalize hs6e : s5.set bd (.raw (.cells ((bools D ++ spd).set i2 (.bool true)).toArray 4 (0, 0))) = s6 at hs6 hk6 hw6 hn56
            have nst : ∀ {cs : Array Value} {ty : TypeId}, ty ≠ 122 → ty ≠ 4 → ty ≠ 9 → NotS (.raw (.cells cs ty (0, 0))) := fun h1 h2 h3 => notS_cells h1 h2 h3
            have m96 := hk6.2 _ _ hm9 (nst (by decide) (by decide) (by decide))
            have mo6 := hk6.2 _ _ mo5 (nst (by decide) (by decide) (by decide))
            have h6 := h5.keepN hk6
            have hr6 := hs6.root
            simp -implicitDefEqProofs (disch := first | omega | (simp only [St.set_n, St.up_n, List.length_cons, List.length_nil]; omega)) only [go_sem, Nat.reduceAdd, Nat.reduceMul, Nat.reduceSub, Int.reduceAdd, Int.reduceMul, Int.reduceSub, Int.reduceNeg, Int.reduceToNat, q0, q3, q5, q6, q8, q9, q10, hr5, hm9, hm10, mo5, go, ml5, gl, hi2', hlt2, hne, mbd, hidl, hi2d, hs6e, m96]
            have e7 : (.agg #[.slice Al n Cl', .int .i64 rm, .slice Aq' n Cq', .slice Ad n Cd, .slice none 0 0, .slice none 0 0, .slice none 0 0, .int .i64 0] : Value) = stV rm (.slice Al n Cl') (.slice Aq' n Cq') (.slice Ad n Cd) := rfl
            rw [e7]
            have hu2 : und (D.set i2 true) = m - 1 := by omega
            refine callF_wf (ih (m - 1) (by omega) p (D.set i2 true) X' dead' _ _ xv' _ _ _ ws' s6 _ hu2 (by rw [List.length_set]; exact hDl) (by rw [hXa] at hRX; exact hRX) hs6 h6 hdk' (by rw [hu2]; omega) fun b s7 hF hw7 _ => ?_)
            have hk7 : KeepN σ s7 := hk03.trans (hk35.trans (hk6.trans hF.keep))
            cases b with
            | true =>
              simp -implicitDefEqProofs (disch := first | omega | (simp only [St.set_n, St.up_n, List.length_cons, List.length_nil]; omega)) only [go_sem, Nat.reduceAdd, Nat.reduceMul, Nat.reduceSub, Int.reduceAdd, Int.reduceMul, Int.reduceSub, Int.reduceNeg, Int.reduceToNat, hd]
              exact hK true s7 ⟨hk7, fun e => by cases e⟩ hw7
            | false =>
              obtain ⟨hno, dead2, xv2, hs7, hdk2, hdl2⟩ := hF.no rfl
              rw [hu2] at hdl2
              obtain ⟨bd', Cd3, spd2, ed, mbd7, hidl7, hmark7⟩ := hs7.mark hw7 (i := i2) (by rw [List.length_set]; omega)
              simp only [Value.slice.injEq, Option.some.injEq, Addr.mk.injEq, and_true, true_and, List.length_set] at ed
              obtain ⟨rfl, _, rfl⟩ := ed
              obtain ⟨hs8, hk8, hw8⟩ := hmark7 false
              have hr7 := hs7.root
              have mo7 := hF.keep.2 _ _ mo6 (nst (by decide) (by decide) (by decide))
              simp -implicitDefEqProofs (disch := first | omega | (simp only [St.set_n, St.up_n, List.length_cons, List.length_nil]; omega)) only [go_sem, Nat.reduceAdd, Nat.reduceMul, Nat.reduceSub, Int.reduceAdd, Int.reduceMul, Int.reduceSub, Int.reduceNeg, Int.reduceToNat, q0, q3, q5, q6, q8, hr7, mo7, go, mbd7, hidl7, hi2d]
              refine effD_plan [0, 1, 3, 7, 0, 0, 48, 112, 255, 511] [0, 1, 2, 3, 4, 5, 6, 7, 8] (.eag 0 (.eag 1 (.eag 2 (.eagq 3 (.eag 4 (.eag 5 (.eag 6 (.eagq 7 (.eag 8 (.alt 9 [] .fin .stop)))))))))) (by kernel_rfl) ?_
              simp -implicitDefEqProofs (disch := first | omega | (simp only [St.set_n, St.up_n, List.length_cons, List.length_nil]; omega)) only [go_sem, Nat.reduceAdd, Nat.reduceMul, Nat.reduceSub, Int.reduceAdd, Int.reduceMul, Int.reduceSub, Int.reduceNeg, Int.reduceToNat, q0, q3, q5, q6, q8, hr7, mo7, go, mbd7, hidl7, hi2d]
              have hDD : (D.set i2 true).set i2 false = D := by
                rw [List.set_set]
                obtain ⟨hlt', hv⟩ := List.getElem?_eq_some_iff.1 hDi
                rw [← hv]
                exact List.set_getElem_self hlt'
              rw [hDD] at hs8
              refine SemS.wp fun _ => ?_
              simp -implicitDefEqProofs (disch := first | omega | (simp only [St.set_n, St.up_n, List.length_cons, List.length_nil]; omega)) only [go_sem, Nat.reduceAdd, Nat.reduceMul, Nat.reduceSub, Int.reduceAdd, Int.reduceMul, Int.reduceSub, Int.reduceNeg, Int.reduceToNat, q8]
              refine ⟨(outs l D l.length).length - (j + 1), by omega, _, To.refl _ _, j + 1, rfl, by omega, ⟨by simp -implicitDefEqProofs (disch := first | omega | (simp only [St.set_n, St.up_n, List.length_cons, List.length_nil]; omega)) only [go_sem, Nat.reduceAdd, Nat.reduceMul, Nat.reduceSub, Int.reduceAdd, Int.reduceMul, Int.reduceSub, Int.reduceNeg, Int.reduceToNat, q0], by simp -implicitDefEqProofs (disch := first | omega | (simp only [St.set_n, St.up_n, List.length_cons, List.length_nil]; omega)) only [go_sem, Nat.reduceAdd, Nat.reduceMul, Nat.reduceSub, Int.reduceAdd, Int.reduceMul, Int.reduceSub, Int.reduceNeg, Int.reduceToNat, q3], by simp -implicitDefEqProofs (disch := first | omega | (simp only [St.set_n, St.up_n, List.length_cons, List.length_nil]; omega)) only [go_sem, Nat.reduceAdd, Nat.reduceMul, Nat.reduceSub, Int.reduceAdd, Int.reduceMul, Int.reduceSub, Int.reduceNeg, Int.reduceToNat, q5], by simp -implicitDefEqProofs (disch := first | omega | (simp only [St.set_n, St.up_n, List.length_cons, List.length_nil]; omega)) only [go_sem, Nat.reduceAdd, Nat.reduceMul, Nat.reduceSub, Int.reduceAdd, Int.reduceMul, Int.reduceSub, Int.reduceNeg, Int.reduceToNat, q6], by simp -implicitDefEqProofs (disch := first | omega | (simp only [St.set_n, St.up_n, List.length_cons, List.length_nil]; omega)) only [go_sem, Nat.reduceAdd, Nat.reduceMul, Nat.reduceSub, Int.reduceAdd, Int.reduceMul, Int.reduceSub, Int.reduceNeg, Int.reduceToNat, hd]⟩, by first | (simp -implicitDefEqProofs (disch := first | omega | (simp only [St.set_n, St.up_n, List.length_cons, List.length_nil]; omega)) only [go_sem, Nat.reduceAdd, Nat.reduceMul, Nat.reduceSub, Int.reduceAdd, Int.reduceMul, Int.reduceSub, Int.reduceNeg, Int.reduceToNat]; simp; done) | (simp; done), hnext dead2 xv2 _ hs8 hdk2 (by omega) (hk35.trans (hk6.trans (hF.keep.trans hk8))) fun _ => hno⟩
          · rw [decide_eq_true hac] at hne
            simp -implicitDefEqProofs (disch := first | omega | (simp only [St.set_n, St.up_n, List.length_cons, List.length_nil]; omega)) only [go_sem, Nat.reduceAdd, Nat.reduceMul, Nat.reduceSub, Int.reduceAdd, Int.reduceMul, Int.reduceSub, Int.reduceNeg, Int.reduceToNat, q0, q3, q5, q6, q8, q9, q10, hr5, hm9, hm10, mo5, go, ml5, gl, hi2', hlt2, hne]
            refine SemS.wp fun _ => ?_
            simp -implicitDefEqProofs (disch := first | omega | (simp only [St.set_n, St.up_n, List.length_cons, List.length_nil]; omega)) only [go_sem, Nat.reduceAdd, Nat.reduceMul, Nat.reduceSub, Int.reduceAdd, Int.reduceMul, Int.reduceSub, Int.reduceNeg, Int.reduceToNat, q8]
            refine ⟨(outs l D l.length).length - (j + 1), by omega, _, To.refl _ _, j + 1, rfl, by omega, ⟨by simp -implicitDefEqProofs (disch := first | omega | (simp only [St.set_n, St.up_n, List.length_cons, List.length_nil]; omega)) only [go_sem, Nat.reduceAdd, Nat.reduceMul, Nat.reduceSub, Int.reduceAdd, Int.reduceMul, Int.reduceSub, Int.reduceNeg, Int.reduceToNat, q0], by simp -implicitDefEqProofs (disch := first | omega | (simp only [St.set_n, St.up_n, List.length_cons, List.length_nil]; omega)) only [go_sem, Nat.reduceAdd, Nat.reduceMul, Nat.reduceSub, Int.reduceAdd, Int.reduceMul, Int.reduceSub, Int.reduceNeg, Int.reduceToNat, q3], by simp -implicitDefEqProofs (disch := first | omega | (simp only [St.set_n, St.up_n, List.length_cons, List.length_nil]; omega)) only [go_sem, Nat.reduceAdd, Nat.reduceMul, Nat.reduceSub, Int.reduceAdd, Int.reduceMul, Int.reduceSub, Int.reduceNeg, Int.reduceToNat, q5], by simp -implicitDefEqProofs (disch := first | omega | (simp only [St.set_n, St.up_n, List.length_cons, List.length_nil]; omega)) only [go_sem, Nat.reduceAdd, Nat.reduceMul, Nat.reduceSub, Int.reduceAdd, Int.reduceMul, Int.reduceSub, Int.reduceNeg, Int.reduceToNat, q6], by simp -implicitDefEqProofs (disch := first | omega | (simp only [St.set_n, St.up_n, List.length_cons, List.length_nil]; omega)) only [go_sem, Nat.reduceAdd, Nat.reduceMul, Nat.reduceSub, Int.reduceAdd, Int.reduceMul, Int.reduceSub, Int.reduceNeg, Int.reduceToNat, hd]⟩, by first | (simp -implicitDefEqProofs (disch := first | omega | (simp only [St.set_n, St.up_n, List.length_cons, List.length_nil]; omega)) only [go_sem, Nat.reduceAdd, Nat.reduceMul, Nat.reduceSub, Int.reduceAdd, Int.reduceMul, Int.reduceSub, Int.reduceNeg, Int.reduceToNat]; simp; done) | (simp; done), hnext dead' xv' s5 hs5 hdk' (by omega) hk35 fun h => absurd h hac⟩
      · have hjo : j = (outs l D l.length).length := by omega
        have hno : ¬ Cmp l n D X := by
          refine no_cmp (fun h => h0 (by rw [h]; rfl)) fun i c hi hci ha => ?_
          obtain ⟨jj, hjj⟩ := List.getElem?_of_mem hi
          exact hok jj i c (by have := (List.getElem?_eq_some_iff.1 hjj).1; omega) hjj hci ha
        have hmp : 1 ≤ m := by
          obtain ⟨x, hx⟩ : ∃ x, (outs l D l.length)[0]? = some x := ⟨(outs l D l.length)[0]'(by omega), List.getElem?_eq_getElem (by omega)⟩
          obtain ⟨i2, rfl, hi2, hfr⟩ := outs_mem (List.mem_of_getElem? hx)
          obtain ⟨hDi, c, hci⟩ := frB_false hfr hDl
          have hund := und_set D i2 hDi
          omega
        have hfbm : fb m = 1 + 10 * fb (m - 1) := by
          obtain ⟨m', rfl⟩ : ∃ m', m = m' + 1 := ⟨m - 1, by omega⟩
          rfl
        have hj9 : j ≤ 10 := by omega
        have hmul : j * fb (m - 1) ≤ 10 * fb (m - 1) := Nat.mul_le_mul_right _ hj9
        have hdl2 := hdl
        rw [hm] at hdl2
        obtain ⟨Ax2, Cx2, rfl, hCx2⟩ := hs4.ox.is
        refine SemS.seqw fun _ => ?_
        simp -implicitDefEqProofs (disch := first | omega | (simp only [St.set_n, St.up_n, List.length_cons, List.length_nil]; omega)) only [go_sem, Nat.reduceAdd, Nat.reduceMul, Nat.reduceSub, Int.reduceAdd, Int.reduceMul, Int.reduceSub, Int.reduceNeg, Int.reduceToNat, q0, q3, q5, q6, q8, hlt2, hr4]
        refine appE hw4 hs4.ox se33 kd33 zr9 rfl (by omega) (ys := [.string (skS D rm X)]) rfl rfl (by omega) fun A' C' s5 hC' o5 heq hb' hn5 hw5 => ?_
        have hty : ∀ c cs ty, s4.m c = some (.raw (.cells cs ty (0, 0))) → ty ≠ 9 → s5.m c = some (.raw (.cells cs ty (0, 0))) := fun c cs ty hx ht => by
          rw [heq c (hw4.2 _ _ hx).2 fun e => ?_]
          · exact hx
          · obtain ⟨cs', hc'⟩ := hs4.ox.typ e
            rw [hc'] at hx
            injection hx with hx; injection hx with hx; injection hx with _ hx _
            exact ht hx.symm
        have hr5 := hty _ _ _ hr4 (by decide)
        have hcomp : ∀ c y, s4.m c = some y → (∀ cs, y ≠ .raw (.cells cs 9 (0, 0))) → s5.m c = some y := fun c y hx hne => by
          rw [heq c (hw4.2 _ _ hx).2 fun e => ?_]
          · exact hx
          · obtain ⟨cs', hc'⟩ := hs4.ox.typ e
            rw [hc'] at hx
            exact hne cs' (Option.some.inj hx).symm
        simp -implicitDefEqProofs (disch := first | omega | (simp only [St.set_n, St.up_n, List.length_cons, List.length_nil]; omega)) only [go_sem, Nat.reduceAdd, Nat.reduceMul, Nat.reduceSub, Int.reduceAdd, Int.reduceMul, Int.reduceSub, Int.reduceNeg, Int.reduceToNat, q0, hr5, hd]
        have hk45 : KeepN s4 (s5.set p (.raw (.cells #[lv, dv, .slice A' (dead'.length + 1) C'] 122 (0, 0)))) := by
          refine ⟨hn5, fun c y hx hn => ?_⟩
          have hne : c ≠ p := fun e => by rw [e, hr4] at hx; exact (hn _).1 (Option.some.inj hx).symm
          rw [St.set_m_ne _ _ hne]
          exact hcomp c y hx fun cs => (hn cs).2.2
        have hty2 : ∀ c cs ty, s4.m c = some (.raw (.cells cs ty (0, 0))) → ty ≠ 9 → ty ≠ 122 → (s5.set p (.raw (.cells #[lv, dv, .slice A' (dead'.length + 1) C'] 122 (0, 0)))).m c = some (.raw (.cells cs ty (0, 0))) := fun c cs ty hx t1 t2 => by
          have hne : c ≠ p := fun e => by
            rw [e, hr4] at hx
            injection hx with hx; injection hx with hx; injection hx with _ hx _
            exact t2 hx.symm
          rw [St.set_m_ne _ _ hne]
          exact hty c cs ty hx t1
        have hps := (hw5.2 _ _ hr5)
        refine hK false _ ⟨hk03.trans (hk4.trans hk45), fun _ => ⟨hno, dead' ++ [skS D rm X], .slice A' (dead'.length + 1) C', ⟨by simp -implicitDefEqProofs (disch := first | omega | (simp only [St.set_n, St.up_n, List.length_cons, List.length_nil]; omega)) only [go_sem, Nat.reduceAdd, Nat.reduceMul, Nat.reduceSub, Int.reduceAdd, Int.reduceMul, Int.reduceSub, Int.reduceNeg, Int.reduceToNat], hs4.ol.keepT fun c cs hc => hty2 _ _ _ hc (by decide) (by decide), hs4.od.keepT fun c cs hc => hty2 _ _ _ hc (by decide) (by decide), ?_⟩, ?_, ?_⟩⟩ (hw5.set _ hps)
        · have e1 : strs (dead' ++ [skS D rm X]) = strs dead' ++ [.string (skS D rm X)] := by simp [strs]
          have e2 : (dead' ++ [skS D rm X]).length = dead'.length + 1 := by simp
          rw [e1, e2]
          refine o5.keepT fun c cs hc => ?_
          have hne : c ≠ p := fun e => by
            rw [e, hr5] at hc
            injection hc with hc; injection hc with hc; injection hc with _ hc _
            exact absurd hc (by decide)
          rw [St.set_m_ne _ _ hne]; exact hc
        · intro k hk D' X'' hDl' hX'' hkk
          rcases List.mem_append.1 hk with hk | hk
          · exact hdk' k hk D' X'' hDl' hX'' hkk
          · rw [List.mem_singleton] at hk
            subst hk
            obtain ⟨rfl, rfl⟩ := hc.inj D' D X'' X hDl' hDl hX'' hX hkk
            exact hno
        · rw [List.length_append, List.length_singleton, hm, hfbm]; omega
end
end Go.Proofs.YtdbgeahmhfocaaaGreat

/- 'Explained', by a walk. -/
namespace Go.Proofs.YtdbgeahmhfocaaaGreat
set_option linter.unusedSimpArgs false
set_option linter.unusedVariables false
set_option maxRecDepth 100000
open Go Go.RowKit
section
variable {B : World} {σ : St} {K : Value → St → Prop}
theorem find_all {l : List Cl} {n rm : Nat} {Rch : XS → Prop} (hc : FCtx l n rm Rch) (m : Nat) : FindOk B l n rm Rch m := by
  induction m using Nat.strongRecOn with
  | _ m ih => exact find_step hc fun m' h => ih m' h
theorem fb_le : ∀ m, m ≤ 10 → fb m ≤ 11111111111 := by
  intro m hm
  have : m = 0 ∨ m = 1 ∨ m = 2 ∨ m = 3 ∨ m = 4 ∨ m = 5 ∨ m = 6 ∨ m = 7 ∨ m = 8 ∨ m = 9 ∨ m = 10 := by omega
  rcases this with rfl | rfl | rfl | rfl | rfl | rfl | rfl | rfl | rfl | rfl | rfl <;> decide
open Classical in
theorem ref_right_t {l : List Cl} {v : Value} (hl : l.length ≤ 100000) (ho : Sq B σ l v) (hr : Rt l) (hK : K (.bool true) σ) : Fn Tryz.prog B 47 #[v] σ K := by
  refine ref_right hl ho ?_
  rw [decide_eq_true hr]; exact hK
set_option maxHeartbeats 4000000 in
theorem exp_of {l : List Cl} {n rm : Nat} {Rch : XS → Prop} (hc : FCtx l n rm Rch) {X : XS} (hX : Rch X) {l2 qv ev lv : Value} {ws : List Value} (h : StOk n σ X l2 qv ev ws) (hl : Own σ 69 15 (flat fC l) l.length lv) (hr : Rt l) (hcmp : Cmp l n (List.replicate l.length false) X)
    (hK : ∀ τ, KeepN σ τ → τ.wf B → K (.bool true) τ) : Fn Tryz.prog B 15 #[stV rm l2 qv ev, lv] σ K := by
  obtain ⟨Al, Cl', rfl, hCl⟩ := h.ol.is
  obtain ⟨Aq, Cq, rfl, hCq⟩ := h.oq.is
  obtain ⟨Ad, Cd, rfl, hCd⟩ := h.od.is
  obtain ⟨Ac, Cc, rfl, hCc⟩ := hl.is
  have hl10 := hc.l10
  refine Fn.of is15 (by simp) fun hwf => ?_
  have hB := hwf.1
  unfold stV
  simp only [b15, Tryz.f15, Option.getD_some]
  have key : ∀ s1, s1 = (σ.set σ.n (.raw (.cells #[.slice Al n Cl', .int .i64 rm, .slice Aq n Cq, .slice Ad n Cd, .slice none 0 0, .slice none 0 0, .slice none 0 0, .int .i64 0] 37 (0, 0)))).up (σ.n + 1) →
      (∀ c y, σ.m c = some y → s1.m c = some y) ∧ s1.m σ.n = some (.raw (.cells #[.slice Al n Cl', .int .i64 rm, .slice Aq n Cq, .slice Ad n Cd, .slice none 0 0, .slice none 0 0, .slice none 0 0, .int .i64 0] 37 (0, 0))) ∧ s1.n = σ.n + 1 ∧ s1.wf B := by
    rintro s1 rfl
    exact ⟨fun c y hx => by
      have := (hwf.2 _ _ hx).2
      simp -implicitDefEqProofs (disch := first | omega | (simp only [St.set_n, St.up_n, List.length_cons, List.length_nil]; omega)) only [go_sem, Nat.reduceAdd, Nat.reduceMul, Nat.reduceSub, Int.reduceAdd, Int.reduceMul, Int.reduceSub, Int.reduceNeg, Int.reduceToNat, hx], by simp -implicitDefEqProofs (disch := first | omega | (simp only [St.set_n, St.up_n, List.length_cons, List.length_nil]; omega)) only [go_sem, Nat.reduceAdd, Nat.reduceMul, Nat.reduceSub, Int.reduceAdd, Int.reduceMul, Int.reduceSub, Int.reduceNeg, Int.reduceToNat], rfl, set_wf1 hwf⟩
  obtain ⟨hk1, hm1, hn1, hw1⟩ := key _ rfl
  simp -implicitDefEqProofs (disch := first | omega | (simp only [St.set_n, St.up_n, List.length_cons, List.length_nil]; omega)) only [go_sem, Nat.reduceAdd, Nat.reduceMul, Nat.reduceSub, Int.reduceAdd, Int.reduceMul, Int.reduceSub, Int.reduceNeg, Int.reduceToNat]
  generalize (σ.set σ.n (.raw (.cells #[.slice Al n Cl', .int .i64 rm, .slice Aq n Cq, .slice Ad n Cd, .slice none 0 0, .slice none 0 0, .slice none 0 0, .int .i64 0] 37 (0, 0)))).up (σ.n + 1) = s1 at hk1 hm1 hn1 hw1 ⊢
  have hl1 := hl.keepR (σ' := s1) fun b o _ ho => hk1 _ _ ho
  refine callF_of (ref_right_t (l := l) (by omega) (Own.sq hl1 hw1) hr ?_)
  simp -implicitDefEqProofs (disch := first | omega | (simp only [St.set_n, St.up_n, List.length_cons, List.length_nil]; omega)) only [go_sem, Nat.reduceAdd, Nat.reduceMul, Nat.reduceSub, Int.reduceAdd, Int.reduceMul, Int.reduceSub, Int.reduceNeg, Int.reduceToNat]
  rw [zc_bools']
  have hm1n := (hw1.2 _ _ hm1).2
  simp -implicitDefEqProofs (disch := first | omega | (simp only [St.set_n, St.up_n, List.length_cons, List.length_nil]; omega)) only [go_sem, Nat.reduceAdd, Nat.reduceMul, Nat.reduceSub, Int.reduceAdd, Int.reduceMul, Int.reduceSub, Int.reduceNeg, Int.reduceToNat, hm1]
  have key2 : ∀ s2, s2 = ((s1.set s1.n (.raw (.cells (bools (List.replicate l.length false)).toArray 4 (0, 0)))).set (s1.n + 1) (.raw (.cells #[.slice Ac l.length Cc, .slice (some ⟨s1.n, 0, none⟩) l.length l.length, .slice none 0 0] 122 (0, 0)))).up (s1.n + 1 + 1) → (∀ c y, s1.m c = some y → s2.m c = some y) ∧ s2.m s1.n = some (.raw (.cells (bools (List.replicate l.length false) ++ []).toArray 4 (0, 0))) ∧ s2.m (s1.n + 1) = some (.raw (.cells #[.slice Ac l.length Cc, .slice (some ⟨s1.n, 0, none⟩) l.length l.length, .slice none 0 0] 122 (0, 0))) ∧ s2.n = s1.n + 1 + 1 ∧ s2.wf B := by
    rintro s2 rfl
    refine ⟨fun c y hx => ?_, by simp -implicitDefEqProofs (disch := first | omega | (simp only [St.set_n, St.up_n, List.length_cons, List.length_nil]; omega)) only [go_sem, Nat.reduceAdd, Nat.reduceMul, Nat.reduceSub, Int.reduceAdd, Int.reduceMul, Int.reduceSub, Int.reduceNeg, Int.reduceToNat], by simp -implicitDefEqProofs (disch := first | omega | (simp only [St.set_n, St.up_n, List.length_cons, List.length_nil]; omega)) only [go_sem, Nat.reduceAdd, Nat.reduceMul, Nat.reduceSub, Int.reduceAdd, Int.reduceMul, Int.reduceSub, Int.reduceNeg, Int.reduceToNat], rfl, set_wf1 (y := .raw (.cells #[.slice Ac l.length Cc, .slice (some ⟨s1.n, 0, none⟩) l.length l.length, .slice none 0 0] 122 (0, 0))) (set_wf1 (y := .raw (.cells (bools (List.replicate l.length false)).toArray 4 (0, 0))) hw1)⟩
    have := (hw1.2 _ _ hx).2
    simp -implicitDefEqProofs (disch := first | omega | (simp only [St.set_n, St.up_n, List.length_cons, List.length_nil]; omega)) only [go_sem, Nat.reduceAdd, Nat.reduceMul, Nat.reduceSub, Int.reduceAdd, Int.reduceMul, Int.reduceSub, Int.reduceNeg, Int.reduceToNat, hx]
  obtain ⟨hk2, hmb, hmp, hn2, hw2⟩ := key2 _ rfl
  generalize ((s1.set s1.n (.raw (.cells (bools (List.replicate l.length false)).toArray 4 (0, 0)))).set (s1.n + 1) (.raw (.cells #[.slice Ac l.length Cc, .slice (some ⟨s1.n, 0, none⟩) l.length l.length, .slice none 0 0] 122 (0, 0)))).up (s1.n + 1 + 1) = s2 at hk2 hmb hmp hn2 hw2 ⊢
  have e0 : (.agg #[.slice Al n Cl', .int .i64 rm, .slice Aq n Cq, .slice Ad n Cd, .slice none 0 0, .slice none 0 0, .slice none 0 0, .int .i64 0] : Value) = stV rm (.slice Al n Cl') (.slice Aq n Cq) (.slice Ad n Cd) := rfl
  rw [e0]
  have hk02 : KeepN σ s2 := KeepN.all (by omega) fun c y hx => hk2 c y (hk1 c y hx)
  have hS : SrI s2 (s1.n + 1) l (List.replicate l.length false) [] (.slice Ac l.length Cc) (.slice (some ⟨s1.n, 0, none⟩) l.length l.length) (.slice none 0 0) := by
    refine ⟨hmp, hl1.keepR fun b o _ ho => hk2 _ _ ho, ?_, Own.nil⟩
    rw [List.length_replicate]
    exact Own.of' (sp := []) hmb (by simp [bools]) (Nat.le_refl _) (by simp [bools])
  have hu := und_le (List.replicate l.length false)
  rw [List.length_replicate] at hu
  have hfb := fb_le (und (List.replicate l.length false)) (by omega)
  refine callF_wf (find_all hc _ (s1.n + 1) (List.replicate l.length false) X [] _ _ _ _ _ _ ws s2 _ rfl (by simp) hX hS (h.keepN hk02) (fun k hk => by simp at hk) (by rw [List.length_nil]; omega) fun b τ hF hwτ _ => ?_)
  cases b with
  | false => exact absurd hcmp (hF.no rfl).1
  | true =>
    simp -implicitDefEqProofs (disch := first | omega | (simp only [St.set_n, St.up_n, List.length_cons, List.length_nil]; omega)) only [go_sem, Nat.reduceAdd, Nat.reduceMul, Nat.reduceSub, Int.reduceAdd, Int.reduceMul, Int.reduceSub, Int.reduceNeg, Int.reduceToNat]
    exact hK τ (hk02.trans hF.keep) hwτ
end
end Go.Proofs.YtdbgeahmhfocaaaGreat

/- The document's new states, by walks. -/
namespace Go.Proofs.YtdbgeahmhfocaaaGreat
set_option linter.unusedSimpArgs false
set_option linter.unusedVariables false
set_option maxRecDepth 100000
open Go Go.RowKit
theorem zc_rep {z : Value} (hz : z.cells = #[z]) (n : Nat) : zc z n = (List.replicate n z).toArray := by
  have hl : (zc z n).size = n := by simp [zc, zcells]; first | done | (rw [hz]; simp)
  apply Array.ext
  · rw [hl]; simp
  · intro i h1 h2
    simp [zc, zcells, hz, Array.getElem_map, Nat.mod_one]
def X0 (n : Nat) : XS := ⟨List.replicate n [], List.replicate n 0⟩
section
variable {B : World} {σ : St} {K : Value → St → Prop}
theorem coreN_eq (v : Int) : max 0 (min v 8) = (coreN v : Int) := by unfold coreN; omega
theorem roomN_eq (v : Int) : max 1 (min v 16) = (roomN v : Int) := by unfold roomN; omega
theorem new17_of {subs : Int} (hK : ∀ b τ, σ.n ≤ b → b < τ.n → τ.m b = some (.raw (.cells (List.replicate (coreN subs) (.slice none 0 0)).toArray 33 (0, 0))) → (∀ c y, σ.m c = some y → τ.m c = some y) → K (.agg #[.slice (some ⟨b, 0, none⟩) (coreN subs) (coreN subs)]) τ) : Fn Tryz.prog B 61 #[.int .i64 subs] σ K := by
  have h8 : coreN subs ≤ 8 := by unfold coreN; omega
  refine Fn.of is61 (by simp) fun hwf => ?_
  have hB := hwf.1
  simp only [b61, Tryz.f61, Option.getD_some]
  simp -implicitDefEqProofs (disch := first | omega | (simp only [St.set_n, St.up_n, List.length_cons, List.length_nil]; omega)) only [go_sem, Nat.reduceAdd, Nat.reduceMul, Nat.reduceSub, Int.reduceAdd, Int.reduceMul, Int.reduceSub, Int.reduceNeg, Int.reduceToNat]
  rw [coreN_eq]
  simp -implicitDefEqProofs (disch := first | omega | (simp only [St.set_n, St.up_n, List.length_cons, List.length_nil]; omega)) only [go_sem, Nat.reduceAdd, Nat.reduceMul, Nat.reduceSub, Int.reduceAdd, Int.reduceMul, Int.reduceSub, Int.reduceNeg, Int.reduceToNat]
  rw [zc_rep rfl]
  refine hK (σ.n + 1) _ (by omega) (by simp only [St.up_n, St.set_n]; omega) (by simp -implicitDefEqProofs (disch := first | omega | (simp only [St.set_n, St.up_n, List.length_cons, List.length_nil]; omega)) only [go_sem, Nat.reduceAdd, Nat.reduceMul, Nat.reduceSub, Int.reduceAdd, Int.reduceMul, Int.reduceSub, Int.reduceNeg, Int.reduceToNat]; first | done | simp) fun c y hx => ?_
  have := (hwf.2 _ _ hx).2
  simp -implicitDefEqProofs (disch := first | omega | (simp only [St.set_n, St.up_n, List.length_cons, List.length_nil]; omega)) only [go_sem, Nat.reduceAdd, Nat.reduceMul, Nat.reduceSub, Int.reduceAdd, Int.reduceMul, Int.reduceSub, Int.reduceNeg, Int.reduceToNat, hx]
set_option maxHeartbeats 4000000 in
theorem new18_of {subs cap : Int} (hK : ∀ lv qv dv ws τ, StOk (coreN subs) τ (X0 (coreN subs)) lv qv dv ws → (∀ b, blk qv = some b → σ.n ≤ b) → (∀ b, blk dv = some b → σ.n ≤ b) → σ.n ≤ τ.n → (∀ c y, σ.m c = some y → τ.m c = some y) → K (stV (roomN cap) lv qv dv) τ) : Fn Tryz.prog B 30 #[.int .i64 subs, .int .i64 cap] σ K := by
  have h8 : coreN subs ≤ 8 := by unfold coreN; omega
  refine Fn.of is30 (by simp) fun hwf => ?_
  have hB := hwf.1
  simp only [b30, Tryz.f30, Option.getD_some]
  simp -implicitDefEqProofs (disch := first | omega | (simp only [St.set_n, St.up_n, List.length_cons, List.length_nil]; omega)) only [go_sem, Nat.reduceAdd, Nat.reduceMul, Nat.reduceSub, Int.reduceAdd, Int.reduceMul, Int.reduceSub, Int.reduceNeg, Int.reduceToNat]
  refine callF_wf (new17_of (subs := subs) fun b τ hb hbn hm hk hwτ => ?_)
  have p4 := hk σ.n (.raw (.cells #[.slice none 0 0, .int .i64 0, .slice none 0 0, .slice none 0 0, .slice none 0 0, .slice none 0 0, .slice none 0 0, .int .i64 0] 37 (0, 0))) (by simp -implicitDefEqProofs (disch := first | omega | (simp only [St.set_n, St.up_n, List.length_cons, List.length_nil]; omega)) only [go_sem, Nat.reduceAdd, Nat.reduceMul, Nat.reduceSub, Int.reduceAdd, Int.reduceMul, Int.reduceSub, Int.reduceNeg, Int.reduceToNat])
  have p4n := (hwτ.2 _ _ p4).2
  simp only [St.up_n] at hb
  have hkσ : ∀ c y, σ.m c = some y → τ.m c = some y := fun c y hx => hk c y (by
    have := (hwf.2 _ _ hx).2
    simp -implicitDefEqProofs (disch := first | omega | (simp only [St.set_n, St.up_n, List.length_cons, List.length_nil]; omega)) only [go_sem, Nat.reduceAdd, Nat.reduceMul, Nat.reduceSub, Int.reduceAdd, Int.reduceMul, Int.reduceSub, Int.reduceNeg, Int.reduceToNat, hx])
  simp -implicitDefEqProofs (disch := first | omega | (simp only [St.set_n, St.up_n, List.length_cons, List.length_nil]; omega)) only [go_sem, Nat.reduceAdd, Nat.reduceMul, Nat.reduceSub, Int.reduceAdd, Int.reduceMul, Int.reduceSub, Int.reduceNeg, Int.reduceToNat, roomN_eq]
  refine effD_plan [0, 0, 2, 6, 0, 16, 48, 112, 0, 256, 768, 1792, 4095, 8191] [0, 1, 2, 3, 4, 5, 6, 8, 9, 10, 12] (.eagq 0 (.eag 1 (.eagq 2 (.eagq 3 (.eag 4 (.eagq 5 (.eagq 6 (.eag 8 (.eagq 9 (.eagq 10 (.alt 7 [0, 2, 3, 9, 10] (.alt 11 [0, 2, 3, 5, 6] (.eag 12 (.alt 13 [] .fin .stop)) .stop) (.alt 11 [0, 2, 3, 5, 6] (.alt 7 [0, 2, 3, 9, 10] (.eag 12 (.alt 13 [] .fin .stop)) .stop) .stop)))))))))))) (by kernel_rfl) ?_
  simp -implicitDefEqProofs (disch := first | omega | (simp only [St.set_n, St.up_n, List.length_cons, List.length_nil]; omega)) only [go_sem, Nat.reduceAdd, Nat.reduceMul, Nat.reduceSub, Int.reduceAdd, Int.reduceMul, Int.reduceSub, Int.reduceNeg, Int.reduceToNat, p4, roomN_eq]
  have hz1 : zc (.slice none 0 0) (coreN subs) = (List.replicate (coreN subs) (.slice none 0 0)).toArray := zc_rep rfl _
  have hz2 : zc (.int .i64 0) (coreN subs) = (ints (List.replicate (coreN subs) 0)).toArray := by rw [zc_rep rfl]; simp [ints]
  rw [hz1, hz2]
  have hws : ∀ {s : St} (i : Nat) (w : Value) (q : List Mg), (List.replicate (coreN subs) (.slice none 0 0))[i]? = some w → (X0 (coreN subs)).q[i]? = some q → Own s 40 3 (flat fM q) q.length w := fun i w q h1 h2 => by
    have hi : i < coreN subs := by have := (List.getElem?_eq_some_iff.1 h1).1; simpa using this
    simp only [X0, List.getElem?_replicate, hi, if_true, Option.some.injEq] at h1 h2
    subst h1 h2
    exact Own.nil
  have hsm : ∀ q ∈ (X0 (coreN subs)).q, q.length ≤ 16 ∧ ∀ m ∈ q, SmM m := fun q hq => by
    rw [List.eq_of_mem_replicate hq]; simp
  have hdd : ∀ x ∈ (X0 (coreN subs)).d, 0 ≤ x ∧ x ≤ 1000 := fun x hx => by rw [List.eq_of_mem_replicate hx]; omega
  refine ⟨?_, ?_⟩
  · refine hK _ _ _ (List.replicate (coreN subs) (.slice none 0 0)) _ ⟨Own.of' (sp := []) (by first | (simp -implicitDefEqProofs (disch := first | omega | (simp only [St.set_n, St.up_n, List.length_cons, List.length_nil]; omega)) only [go_sem, Nat.reduceAdd, Nat.reduceMul, Nat.reduceSub, Int.reduceAdd, Int.reduceMul, Int.reduceSub, Int.reduceNeg, Int.reduceToNat, hm]; done) | (simp -implicitDefEqProofs (disch := first | omega | (simp only [St.set_n, St.up_n, List.length_cons, List.length_nil]; omega)) only [go_sem, Nat.reduceAdd, Nat.reduceMul, Nat.reduceSub, Int.reduceAdd, Int.reduceMul, Int.reduceSub, Int.reduceNeg, Int.reduceToNat, hm]; simp)) (by simp) (Nat.le_refl _) (by simp), Own.of' (sp := []) (by first | (simp -implicitDefEqProofs (disch := first | omega | (simp only [St.set_n, St.up_n, List.length_cons, List.length_nil]; omega)) only [go_sem, Nat.reduceAdd, Nat.reduceMul, Nat.reduceSub, Int.reduceAdd, Int.reduceMul, Int.reduceSub, Int.reduceNeg, Int.reduceToNat]; done) | (simp -implicitDefEqProofs (disch := first | omega | (simp only [St.set_n, St.up_n, List.length_cons, List.length_nil]; omega)) only [go_sem, Nat.reduceAdd, Nat.reduceMul, Nat.reduceSub, Int.reduceAdd, Int.reduceMul, Int.reduceSub, Int.reduceNeg, Int.reduceToNat]; simp)) (by simp) (Nat.le_refl _) (by simp), Own.of' (sp := []) (by first | (simp [X0]; simp -implicitDefEqProofs (disch := first | omega | (simp only [St.set_n, St.up_n, List.length_cons, List.length_nil]; omega)) only [go_sem, Nat.reduceAdd, Nat.reduceMul, Nat.reduceSub, Int.reduceAdd, Int.reduceMul, Int.reduceSub, Int.reduceNeg, Int.reduceToNat]; done) | (simp -implicitDefEqProofs (disch := first | omega | (simp only [St.set_n, St.up_n, List.length_cons, List.length_nil]; omega)) only [go_sem, Nat.reduceAdd, Nat.reduceMul, Nat.reduceSub, Int.reduceAdd, Int.reduceMul, Int.reduceSub, Int.reduceNeg, Int.reduceToNat]; simp [X0])) (by simp [X0, ints]) (Nat.le_refl _) (by simp [X0, ints]), by simp, by simp [X0], by simp [X0], hws, hsm, hdd⟩ (fun b hb => by simp only [blk, Option.some.injEq] at hb; omega) (fun b hb => by simp only [blk, Option.some.injEq] at hb; omega) (by simp only [St.up_n]; omega) fun c y hx => ?_
    have h1 := hkσ c y hx
    have := (hwf.2 _ _ hx).2
    have := (hwτ.2 _ _ h1).2
    simp -implicitDefEqProofs (disch := first | omega | (simp only [St.set_n, St.up_n, List.length_cons, List.length_nil]; omega)) only [go_sem, Nat.reduceAdd, Nat.reduceMul, Nat.reduceSub, Int.reduceAdd, Int.reduceMul, Int.reduceSub, Int.reduceNeg, Int.reduceToNat, h1]
  · refine hK _ _ _ (List.replicate (coreN subs) (.slice none 0 0)) _ ⟨Own.of' (sp := []) (by first | (simp -implicitDefEqProofs (disch := first | omega | (simp only [St.set_n, St.up_n, List.length_cons, List.length_nil]; omega)) only [go_sem, Nat.reduceAdd, Nat.reduceMul, Nat.reduceSub, Int.reduceAdd, Int.reduceMul, Int.reduceSub, Int.reduceNeg, Int.reduceToNat, hm]; done) | (simp -implicitDefEqProofs (disch := first | omega | (simp only [St.set_n, St.up_n, List.length_cons, List.length_nil]; omega)) only [go_sem, Nat.reduceAdd, Nat.reduceMul, Nat.reduceSub, Int.reduceAdd, Int.reduceMul, Int.reduceSub, Int.reduceNeg, Int.reduceToNat, hm]; simp)) (by simp) (Nat.le_refl _) (by simp), Own.of' (sp := []) (by first | (simp -implicitDefEqProofs (disch := first | omega | (simp only [St.set_n, St.up_n, List.length_cons, List.length_nil]; omega)) only [go_sem, Nat.reduceAdd, Nat.reduceMul, Nat.reduceSub, Int.reduceAdd, Int.reduceMul, Int.reduceSub, Int.reduceNeg, Int.reduceToNat]; done) | (simp -implicitDefEqProofs (disch := first | omega | (simp only [St.set_n, St.up_n, List.length_cons, List.length_nil]; omega)) only [go_sem, Nat.reduceAdd, Nat.reduceMul, Nat.reduceSub, Int.reduceAdd, Int.reduceMul, Int.reduceSub, Int.reduceNeg, Int.reduceToNat]; simp)) (by simp) (Nat.le_refl _) (by simp), Own.of' (sp := []) (by first | (simp [X0]; simp -implicitDefEqProofs (disch := first | omega | (simp only [St.set_n, St.up_n, List.length_cons, List.length_nil]; omega)) only [go_sem, Nat.reduceAdd, Nat.reduceMul, Nat.reduceSub, Int.reduceAdd, Int.reduceMul, Int.reduceSub, Int.reduceNeg, Int.reduceToNat]; done) | (simp -implicitDefEqProofs (disch := first | omega | (simp only [St.set_n, St.up_n, List.length_cons, List.length_nil]; omega)) only [go_sem, Nat.reduceAdd, Nat.reduceMul, Nat.reduceSub, Int.reduceAdd, Int.reduceMul, Int.reduceSub, Int.reduceNeg, Int.reduceToNat]; simp [X0])) (by simp [X0, ints]) (Nat.le_refl _) (by simp [X0, ints]), by simp, by simp [X0], by simp [X0], hws, hsm, hdd⟩ (fun b hb => by simp only [blk, Option.some.injEq] at hb; omega) (fun b hb => by simp only [blk, Option.some.injEq] at hb; omega) (by simp only [St.up_n]; omega) fun c y hx => ?_
    have h1 := hkσ c y hx
    have := (hwf.2 _ _ hx).2
    have := (hwτ.2 _ _ h1).2
    simp -implicitDefEqProofs (disch := first | omega | (simp only [St.set_n, St.up_n, List.length_cons, List.length_nil]; omega)) only [go_sem, Nat.reduceAdd, Nat.reduceMul, Nat.reduceSub, Int.reduceAdd, Int.reduceMul, Int.reduceSub, Int.reduceNeg, Int.reduceToNat, h1]
end
end Go.Proofs.YtdbgeahmhfocaaaGreat

/- The document's filled states, by a walk. -/
namespace Go.Proofs.YtdbgeahmhfocaaaGreat
set_option linter.unusedSimpArgs false
set_option linter.unusedVariables false
set_option maxRecDepth 100000
open Go Go.RowKit
/-- A message is offered. -/
def fill1 (n rm : Nat) (X : XS) (w : Int) (m : Mg) : XS :=
  if inR n w then
    if (X.q.getD (w - 1).toNat []).length < rm then ⟨X.q.set (w - 1).toNat (X.q.getD (w - 1).toNat [] ++ [m]), X.d⟩
    else ⟨X.q, X.d.set (w - 1).toNat (X.d.getD (w - 1).toNat 0 + 1)⟩
  else X
def fillX (n rm : Nat) (W : List Int) (M : List Mg) : Nat → XS
  | 0 => X0 n
  | k + 1 => match W[k]?, M[k]? with
    | some w, some m => fill1 n rm (fillX n rm W M k) w m
    | _, _ => fillX n rm W M k
def RMg (m : Mg) (cs : List Value) : Prop := cs = fM m
section
variable {B : World} {σ : St} {K : Value → St → Prop}
theorem wfLow (h : σ.wf B) {b : Nat} (hb : b < B.heap.size) : σ.m b = none := by
  cases hm : σ.m b with
  | none => rfl
  | some x => have := (h.2 b x hm).1; omega
theorem SlR.at {α : Type} {R : α → List Value → Prop} {sz : Nat} {l : List α} {v : Value} (h : SlR B sz R l v) {i : Nat} {x : α} (hx : l[i]? = some x) :
    ∃ b o cap cs, v = .slice (some ⟨b, o, none⟩) l.length cap ∧ R x cs ∧ ∀ s : St, s.wf B → b < s.n ∧ ∀ j w, cs[j]? = some w → rdK B b (o + i * sz + j) (s.m b) = some w := by
  obtain ⟨a, cap, rfl, hlc, _, _, hat⟩ := h
  obtain ⟨b, o, cs, rfl, hb, hR, _, hcell⟩ := hat i x hx
  refine ⟨b, o, cap, cs, rfl, hR, fun s hws => ?_⟩
  have hB := hws.1
  refine ⟨by omega, fun j w hj => ?_⟩
  rw [wfLow hws hb, rdK_none, if_pos hb]
  exact hcell j w hj
theorem SlR.take {α : Type} {R : α → List Value → Prop} {sz : Nat} {l : List α} {a : Option Addr} {cap : Nat} (h : SlR B sz R l (.slice a l.length cap)) {k : Nat} (hk : k ≤ l.length) : SlR B sz R (l.take k) (.slice a k cap) := by
  obtain ⟨a', cap', e, hlc, hcm, hnil, hat⟩ := h
  cases e
  have hl : (l.take k).length = k := by rw [List.length_take]; omega
  refine ⟨a, cap, by rw [hl], by omega, hcm, hnil, fun i x hi => hat i x ?_⟩
  rw [List.getElem?_take] at hi
  split at hi
  · exact hi
  · cases hi
theorem fillX_take {n rm : Nat} {W : List Int} {M : List Mg} {j k : Nat} (h : k ≤ j) : fillX n rm (W.take j) (M.take j) k = fillX n rm W M k := by
  induction k with
  | zero => rfl
  | succ k ih =>
    simp only [fillX, List.getElem?_take, if_pos (show k < j by omega)]
    rw [ih (by omega)]
theorem fillX_d {n rm : Nat} {W : List Int} {M : List Mg} : ∀ k, ∀ x ∈ (fillX n rm W M k).d, 0 ≤ x ∧ x ≤ k
  | 0, x, hx => by
    simp only [fillX, X0] at hx
    rw [List.eq_of_mem_replicate hx]; omega
  | k + 1, x, hx => by
    have ih := fillX_d (n := n) (rm := rm) (W := W) (M := M) k
    simp only [fillX] at hx
    split at hx
    · rename_i w m _ _
      unfold fill1 at hx
      split at hx
      · split at hx
        · have := ih x hx; omega
        · rcases List.mem_or_eq_of_mem_set hx with h | h
          · have := ih x h; omega
          · subst h
            have h1 : 0 ≤ (fillX n rm W M k).d.getD (w - 1).toNat 0 ∧ (fillX n rm W M k).d.getD (w - 1).toNat 0 ≤ k := by
              rw [List.getD_eq_getElem?_getD]
              cases e : (fillX n rm W M k).d[(w - 1).toNat]? with
              | none => simp only [Option.getD_none]; omega
              | some y => exact ih y (List.mem_of_getElem? e)
            omega
      · have := ih x hx; omega
    · have := ih x hx; omega
theorem Own.setT {s : St} {ty ty' : TypeId} {w n b : Nat} {cs : List Value} {c0 : Array Value} {v : Value} {y : HP} (h : Own s ty w cs n v) (hb : s.m b = some (.raw (.cells c0 ty' (0, 0)))) (hne : ty ≠ ty') : Own (s.set b y) ty w cs n v :=
  h.keep fun c x hc hx => by
    obtain ⟨c1, h1⟩ := h.typ hc
    have : c ≠ b := fun e => by
      subst e
      rw [hb] at h1
      injection h1 with h1; injection h1 with h1; injection h1 with _ h1 _
      exact hne h1.symm
    rw [St.set_m_ne _ _ this]; exact hx
theorem nekT {s : St} {b c : Nat} {c0 cs : Array Value} {ty ty' : TypeId} {y : HP} (hb : s.m b = some (.raw (.cells c0 ty' (0, 0)))) (hc : s.m c = some (.raw (.cells cs ty (0, 0)))) (hne : ty ≠ ty') : (s.set b y).m c = some (.raw (.cells cs ty (0, 0))) := by
  have : c ≠ b := fun e => by
    subst e
    rw [hb] at hc
    injection hc with hc; injection hc with hc; injection hc with _ hc _
    exact hne hc.symm
  rw [St.set_m_ne _ _ this]; exact hc
structure FiS (σ : St) (n rm b8 b9 : Nat) (X : XS) (s : St) : Prop where
  ex : ∃ Al Cl Aq Cq Ad Cd ws, s.m b9 = some (.raw (.cells #[.slice Al n Cl, .int .i64 rm, .slice Aq n Cq, .slice Ad n Cd, .slice none 0 0, .slice none 0 0, .slice none 0 0, .int .i64 0] 37 (0, 0))) ∧ StOk n s X (.slice Al n Cl) (.slice Aq n Cq) (.slice Ad n Cd) ws ∧
    (∀ b, blk (.slice Aq n Cq) = some b → σ.n ≤ b) ∧ (∀ b, blk (.slice Ad n Cd) = some b → σ.n ≤ b)
  z : s.m b8 = some (.raw (.cells #[.slice none 0 0, .int .i64 0, .slice none 0 0, .slice none 0 0, .slice none 0 0, .slice none 0 0, .slice none 0 0, .int .i64 0] 37 (0, 0)))
  keep : ∀ c y, σ.m c = some y → s.m c = some y
  n : σ.n ≤ s.n
theorem FiS.more {n rm b8 b9 : Nat} {X : XS} {s s' : St} (h : FiS σ n rm b8 b9 X s) (hk : ∀ c y, s.m c = some y → s'.m c = some y) (hn : s.n ≤ s'.n) : FiS σ n rm b8 b9 X s' := by
  obtain ⟨Al, Cl, Aq, Cq, Ad, Cd, ws, hm, hS, h1, h2⟩ := h.ex
  exact ⟨⟨Al, Cl, Aq, Cq, Ad, Cd, ws, hk _ _ hm, hS.keep fun c o ho => hk c _ ho, h1, h2⟩, hk _ _ h.z, fun c y hx => hk c y (h.keep c y hx), Nat.le_trans h.n hn⟩
structure FiF (vw vm : Value) (b8 b9 i : Nat) (e : Fr) : Prop where
  v2 : e.v 2 = vw
  v3 : e.v 3 = vm
  v8 : e.v 8 = .pointer (some ⟨b8, 0, none⟩)
  v9 : e.v 9 = .pointer (some ⟨b9, 0, none⟩)
  v10 : e.v 10 = .int .i64 i
  d : e.d = []
set_option maxHeartbeats 8000000 in
theorem fill_of {subs cap : Int} {W : List Int} {M : List Mg} {vw vm : Value} (hW : SlR B 1 RInt W vw) (hM : SlR B 3 RMg M vm) (hl : W.length = M.length) (h100 : M.length ≤ 100) (hsm : ∀ m ∈ M, SmM m)
    (hK : ∀ lv qv dv ws τ, StOk (coreN subs) τ (fillX (coreN subs) (roomN cap) W M M.length) lv qv dv ws → σ.n ≤ τ.n → (∀ c y, σ.m c = some y → τ.m c = some y) → τ.wf B → K (stV (roomN cap) lv qv dv) τ) : Fn Tryz.prog B 8 #[.int .i64 subs, .int .i64 cap, vw, vm] σ K := by
  have h8 : coreN subs ≤ 8 := by unfold coreN; omega
  have hr16 : roomN cap ≤ 16 := by unfold roomN; omega
  obtain ⟨aw, cw, evw⟩ : ∃ a c, vw = .slice a W.length c := by obtain ⟨a, c, e, _⟩ := hW; exact ⟨a, c, e⟩
  obtain ⟨am, cm, evm⟩ : ∃ a c, vm = .slice a M.length c := by obtain ⟨a, c, e, _⟩ := hM; exact ⟨a, c, e⟩
  refine Fn.of is8 (by simp) fun hwf => ?_
  have hB := hwf.1
  simp only [b8, Tryz.f8, Option.getD_some]
  simp -implicitDefEqProofs (disch := first | omega | (simp only [St.set_n, St.up_n, List.length_cons, List.length_nil]; omega)) only [go_sem, Nat.reduceAdd, Nat.reduceMul, Nat.reduceSub, Int.reduceAdd, Int.reduceMul, Int.reduceSub, Int.reduceNeg, Int.reduceToNat]
  refine callF_wf (new18_of (subs := subs) (cap := cap) fun lv qv dv ws τ hS hq hd hn hk hwτ => ?_)
  obtain ⟨Al, Cl, rfl, _⟩ := hS.ol.is
  obtain ⟨Aq, Cq, rfl, _⟩ := hS.oq.is
  obtain ⟨Ad, Cd, rfl, _⟩ := hS.od.is
  have p8 := hk σ.n (.raw (.cells #[.slice none 0 0, .int .i64 0, .slice none 0 0, .slice none 0 0, .slice none 0 0, .slice none 0 0, .slice none 0 0, .int .i64 0] 37 (0, 0))) (by simp -implicitDefEqProofs (disch := first | omega | (simp only [St.set_n, St.up_n, List.length_cons, List.length_nil]; omega)) only [go_sem, Nat.reduceAdd, Nat.reduceMul, Nat.reduceSub, Int.reduceAdd, Int.reduceMul, Int.reduceSub, Int.reduceNeg, Int.reduceToNat])
  have p8n := (hwτ.2 _ _ p8).2
  simp only [St.up_n] at hn hq hd
  have hkσ : ∀ c y, σ.m c = some y → τ.m c = some y := fun c y hx => hk c y (by
    have := (hwf.2 _ _ hx).2
    simp -implicitDefEqProofs (disch := first | omega | (simp only [St.set_n, St.up_n, List.length_cons, List.length_nil]; omega)) only [go_sem, Nat.reduceAdd, Nat.reduceMul, Nat.reduceSub, Int.reduceAdd, Int.reduceMul, Int.reduceSub, Int.reduceNeg, Int.reduceToNat, hx])
  unfold stV
  simp -implicitDefEqProofs (disch := first | omega | (simp only [St.set_n, St.up_n, List.length_cons, List.length_nil]; omega)) only [go_sem, Nat.reduceAdd, Nat.reduceMul, Nat.reduceSub, Int.reduceAdd, Int.reduceMul, Int.reduceSub, Int.reduceNeg, Int.reduceToNat]
  have hF : FiS σ (coreN subs) (roomN cap) σ.n τ.n (X0 (coreN subs)) ((τ.set τ.n (.raw (.cells #[.slice Al (coreN subs) Cl, .int .i64 (roomN cap), .slice Aq (coreN subs) Cq, .slice Ad (coreN subs) Cd, .slice none 0 0, .slice none 0 0, .slice none 0 0, .int .i64 0] 37 (0, 0)))).up (τ.n + 1)) := by
    refine ⟨⟨Al, Cl, Aq, Cq, Ad, Cd, ws, by simp -implicitDefEqProofs (disch := first | omega | (simp only [St.set_n, St.up_n, List.length_cons, List.length_nil]; omega)) only [go_sem, Nat.reduceAdd, Nat.reduceMul, Nat.reduceSub, Int.reduceAdd, Int.reduceMul, Int.reduceSub, Int.reduceNeg, Int.reduceToNat], hS.keep fun c o ho => ?_, fun b hb => by have := hq b hb; omega, fun b hb => by have := hd b hb; omega⟩, by simp -implicitDefEqProofs (disch := first | omega | (simp only [St.set_n, St.up_n, List.length_cons, List.length_nil]; omega)) only [go_sem, Nat.reduceAdd, Nat.reduceMul, Nat.reduceSub, Int.reduceAdd, Int.reduceMul, Int.reduceSub, Int.reduceNeg, Int.reduceToNat, p8], fun c y hx => ?_, by simp only [St.up_n]; omega⟩
    · have := (hwτ.2 _ _ ho).2
      simp -implicitDefEqProofs (disch := first | omega | (simp only [St.set_n, St.up_n, List.length_cons, List.length_nil]; omega)) only [go_sem, Nat.reduceAdd, Nat.reduceMul, Nat.reduceSub, Int.reduceAdd, Int.reduceMul, Int.reduceSub, Int.reduceNeg, Int.reduceToNat, ho]
    · have h1 := hkσ c y hx
      have := (hwτ.2 _ _ h1).2
      simp -implicitDefEqProofs (disch := first | omega | (simp only [St.set_n, St.up_n, List.length_cons, List.length_nil]; omega)) only [go_sem, Nat.reduceAdd, Nat.reduceMul, Nat.reduceSub, Int.reduceAdd, Int.reduceMul, Int.reduceSub, Int.reduceNeg, Int.reduceToNat, h1]
  have hw1 := set_wf1 (y := .raw (.cells #[.slice Al (coreN subs) Cl, .int .i64 (roomN cap), .slice Aq (coreN subs) Cq, .slice Ad (coreN subs) Cd, .slice none 0 0, .slice none 0 0, .slice none 0 0, .int .i64 0] 37 (0, 0))) hwτ
  generalize (τ.set τ.n (.raw (.cells #[.slice Al (coreN subs) Cl, .int .i64 (roomN cap), .slice Aq (coreN subs) Cq, .slice Ad (coreN subs) Cd, .slice none 0 0, .slice none 0 0, .slice none 0 0, .int .i64 0] 37 (0, 0)))).up (τ.n + 1) = s1 at hF hw1 ⊢
  refine loop_rule (fun m e s => ∃ i : Nat, m = M.length - i ∧ i ≤ M.length ∧ FiF vw vm σ.n τ.n i e ∧ FiS σ (coreN subs) (roomN cap) σ.n τ.n (fillX (coreN subs) (roomN cap) W M i) s) M.length ?_ ?_
  · exact ⟨0, by omega, by omega, ⟨by simp -implicitDefEqProofs (disch := first | omega | (simp only [St.set_n, St.up_n, List.length_cons, List.length_nil]; omega)) only [go_sem, Nat.reduceAdd, Nat.reduceMul, Nat.reduceSub, Int.reduceAdd, Int.reduceMul, Int.reduceSub, Int.reduceNeg, Int.reduceToNat], by simp -implicitDefEqProofs (disch := first | omega | (simp only [St.set_n, St.up_n, List.length_cons, List.length_nil]; omega)) only [go_sem, Nat.reduceAdd, Nat.reduceMul, Nat.reduceSub, Int.reduceAdd, Int.reduceMul, Int.reduceSub, Int.reduceNeg, Int.reduceToNat], by simp -implicitDefEqProofs (disch := first | omega | (simp only [St.set_n, St.up_n, List.length_cons, List.length_nil]; omega)) only [go_sem, Nat.reduceAdd, Nat.reduceMul, Nat.reduceSub, Int.reduceAdd, Int.reduceMul, Int.reduceSub, Int.reduceNeg, Int.reduceToNat], by simp -implicitDefEqProofs (disch := first | omega | (simp only [St.set_n, St.up_n, List.length_cons, List.length_nil]; omega)) only [go_sem, Nat.reduceAdd, Nat.reduceMul, Nat.reduceSub, Int.reduceAdd, Int.reduceMul, Int.reduceSub, Int.reduceNeg, Int.reduceToNat], by first | (simp -implicitDefEqProofs (disch := first | omega | (simp only [St.set_n, St.up_n, List.length_cons, List.length_nil]; omega)) only [go_sem, Nat.reduceAdd, Nat.reduceMul, Nat.reduceSub, Int.reduceAdd, Int.reduceMul, Int.reduceSub, Int.reduceNeg, Int.reduceToNat]; done) | (simp -implicitDefEqProofs (disch := first | omega | (simp only [St.set_n, St.up_n, List.length_cons, List.length_nil]; omega)) only [go_sem, Nat.reduceAdd, Nat.reduceMul, Nat.reduceSub, Int.reduceAdd, Int.reduceMul, Int.reduceSub, Int.reduceNeg, Int.reduceToNat]; rfl), by simp -implicitDefEqProofs (disch := first | omega | (simp only [St.set_n, St.up_n, List.length_cons, List.length_nil]; omega)) only [go_sem, Nat.reduceAdd, Nat.reduceMul, Nat.reduceSub, Int.reduceAdd, Int.reduceMul, Int.reduceSub, Int.reduceNeg, Int.reduceToNat]⟩, hF⟩
  clear hS hq hd hF hw1 p8 hk hkσ
  rintro m e s hws ⟨i, hmi, hi, ⟨q2, q3, q8, q9, q10, hd⟩, hF⟩
  obtain ⟨Al, Cl, Aq, Cq, Ad, Cd, ws, hm9, hS, hq0, hd0⟩ := hF.ex
  by_cases hlt : (i : Int) < M.length
  · obtain ⟨x, hx⟩ : ∃ x, M[i]? = some x := ⟨M[i]'(by omega), List.getElem?_eq_getElem (by omega)⟩
    obtain ⟨w, hw⟩ : ∃ x, W[i]? = some x := ⟨W[i]'(by omega), List.getElem?_eq_getElem (by omega)⟩
    have hlt' : (i : Int) < W.length := by omega
    have hstep : fillX (coreN subs) (roomN cap) W M (i + 1) = fill1 (coreN subs) (roomN cap) (fillX (coreN subs) (roomN cap) W M i) w x := by simp only [fillX, hw, hx]
    obtain ⟨bw, ow, cw', csw, ew, hRw, hrw⟩ := hW.at hw
    obtain ⟨bm, om, cm', csm, em, hRm, hrm⟩ := hM.at hx
    simp only [RInt, RMg] at hRw hRm
    subst hRw hRm
    rw [ew] at q2 evw
    rw [em] at q3 evm
    simp only [Value.slice.injEq, true_and] at evw evm
    obtain ⟨hbw, hcw⟩ := hrw s hws
    have c0 := hcw 0 _ rfl
    simp only [Nat.mul_one, Nat.add_zero] at c0
    simp -implicitDefEqProofs (disch := first | omega | (simp only [St.set_n, St.up_n, List.length_cons, List.length_nil]; omega)) only [go_sem, Nat.reduceAdd, Nat.reduceMul, Nat.reduceSub, Int.reduceAdd, Int.reduceMul, Int.reduceSub, Int.reduceNeg, Int.reduceToNat, q2, q3, q8, q9, q10, hlt, hlt', hm9, c0]
    refine effD_plan [0, 0, 0, 6, 14, 31, 63] [0, 1, 2, 3, 4, 6] (.eagq 0 (.eag 1 (.eag 2 (.eag 3 (.eagq 4 (.alt 5 [] (.eag 6 .fin) .stop)))))) (by kernel_rfl) ?_
    simp -implicitDefEqProofs (disch := first | omega | (simp only [St.set_n, St.up_n, List.length_cons, List.length_nil]; omega)) only [go_sem, Nat.reduceAdd, Nat.reduceMul, Nat.reduceSub, Int.reduceAdd, Int.reduceMul, Int.reduceSub, Int.reduceNeg, Int.reduceToNat, q2, q3, q8, q9, q10, hlt, hlt', hm9, c0]
    have e0 : (.agg #[.slice Al (coreN subs) Cl, .int .i64 (roomN cap), .slice Aq (coreN subs) Cq, .slice Ad (coreN subs) Cd, .slice none 0 0, .slice none 0 0, .slice none 0 0, .int .i64 0] : Value) = stV (roomN cap) (.slice Al (coreN subs) Cl) (.slice Aq (coreN subs) Cq) (.slice Ad (coreN subs) Cd) := rfl
    rw [e0]
    refine callF_wf (there_of ⟨_, _, _, rfl⟩ ⟨_, _, _, rfl⟩ rfl fun τ hnτ hkτ hwτ => ?_)
    have hFτ := hF.more hkτ hnτ
    have hSτ := hS.keep (s' := τ) fun c o ho => hkτ c _ ho
    have n9 := hkτ _ _ hm9
    obtain ⟨hbwτ, hcwτ⟩ := hrw τ hwτ
    have d0 := hcwτ 0 _ rfl
    simp only [Nat.mul_one, Nat.add_zero] at d0
    cases hin : inR (coreN subs) w with
    | false =>
      have hX : fill1 (coreN subs) (roomN cap) (fillX (coreN subs) (roomN cap) W M i) w x = fillX (coreN subs) (roomN cap) W M i := by unfold fill1; rw [hin]; rfl
      rw [hX] at hstep
      simp -implicitDefEqProofs (disch := first | omega | (simp only [St.set_n, St.up_n, List.length_cons, List.length_nil]; omega)) only [go_sem, Nat.reduceAdd, Nat.reduceMul, Nat.reduceSub, Int.reduceAdd, Int.reduceMul, Int.reduceSub, Int.reduceNeg, Int.reduceToNat, q2, q3, q8, q9, q10, hlt, hlt', n9, d0]
      refine ⟨_, ?_, i + 1, rfl, by omega, ⟨by first | (simp -implicitDefEqProofs (disch := first | omega | (simp only [St.set_n, St.up_n, List.length_cons, List.length_nil]; omega)) only [go_sem, Nat.reduceAdd, Nat.reduceMul, Nat.reduceSub, Int.reduceAdd, Int.reduceMul, Int.reduceSub, Int.reduceNeg, Int.reduceToNat, q2]; done) | (simp -implicitDefEqProofs (disch := first | omega | (simp only [St.set_n, St.up_n, List.length_cons, List.length_nil]; omega)) only [go_sem, Nat.reduceAdd, Nat.reduceMul, Nat.reduceSub, Int.reduceAdd, Int.reduceMul, Int.reduceSub, Int.reduceNeg, Int.reduceToNat, q2]; exact ew.symm), by first | (simp -implicitDefEqProofs (disch := first | omega | (simp only [St.set_n, St.up_n, List.length_cons, List.length_nil]; omega)) only [go_sem, Nat.reduceAdd, Nat.reduceMul, Nat.reduceSub, Int.reduceAdd, Int.reduceMul, Int.reduceSub, Int.reduceNeg, Int.reduceToNat, q3]; done) | (simp -implicitDefEqProofs (disch := first | omega | (simp only [St.set_n, St.up_n, List.length_cons, List.length_nil]; omega)) only [go_sem, Nat.reduceAdd, Nat.reduceMul, Nat.reduceSub, Int.reduceAdd, Int.reduceMul, Int.reduceSub, Int.reduceNeg, Int.reduceToNat, q3]; exact em.symm), by simp -implicitDefEqProofs (disch := first | omega | (simp only [St.set_n, St.up_n, List.length_cons, List.length_nil]; omega)) only [go_sem, Nat.reduceAdd, Nat.reduceMul, Nat.reduceSub, Int.reduceAdd, Int.reduceMul, Int.reduceSub, Int.reduceNeg, Int.reduceToNat, q8], by simp -implicitDefEqProofs (disch := first | omega | (simp only [St.set_n, St.up_n, List.length_cons, List.length_nil]; omega)) only [go_sem, Nat.reduceAdd, Nat.reduceMul, Nat.reduceSub, Int.reduceAdd, Int.reduceMul, Int.reduceSub, Int.reduceNeg, Int.reduceToNat, q9], by simp -implicitDefEqProofs (disch := first | omega | (simp only [St.set_n, St.up_n, List.length_cons, List.length_nil]; omega)) only [go_sem, Nat.reduceAdd, Nat.reduceMul, Nat.reduceSub, Int.reduceAdd, Int.reduceMul, Int.reduceSub, Int.reduceNeg, Int.reduceToNat]; simp, by simp -implicitDefEqProofs (disch := first | omega | (simp only [St.set_n, St.up_n, List.length_cons, List.length_nil]; omega)) only [go_sem, Nat.reduceAdd, Nat.reduceMul, Nat.reduceSub, Int.reduceAdd, Int.reduceMul, Int.reduceSub, Int.reduceNeg, Int.reduceToNat, hd]⟩, ?_⟩
      · omega
      · rw [hstep]; exact hFτ
    | true =>
      have hsub : 1 ≤ w ∧ w ≤ coreN subs := by unfold inR at hin; exact of_decide_eq_true hin
      obtain ⟨k, hk⟩ : ∃ k : Nat, w = (k : Int) + 1 := ⟨(w - 1).toNat, by omega⟩
      subst hk
      have hkN : k < coreN subs := by omega
      have e1 : (k : Int) + 1 - 1 = k := by omega
      have e2 : ((k : Int) + 1 - 1).toNat = k := by omega
      have hk' : (k : Int) < coreN subs := by omega
      obtain ⟨q, hq⟩ : ∃ q, (fillX (coreN subs) (roomN cap) W M i).q[k]? = some q := ⟨_, List.getElem?_eq_getElem (by have := hS.lq; omega)⟩
      obtain ⟨wk, hwk⟩ : ∃ w, ws[k]? = some w := ⟨ws[k]'(by have := hS.lw; omega), List.getElem?_eq_getElem _⟩
      obtain ⟨dx, hdx⟩ : ∃ q, (fillX (coreN subs) (roomN cap) W M i).d[k]? = some q := ⟨_, List.getElem?_eq_getElem (by have := hS.ld; omega)⟩
      obtain ⟨bq, cq, spq, eq, hcq, mq, lq2, _⟩ := hSτ.oq.has (by omega)
      obtain ⟨bd, cd, spd, ed, hcd, md, ld2, _⟩ := hSτ.od.has (by omega)
      cases eq
      cases ed
      have gq : (ws ++ spq)[k]? = some wk := by
        rw [List.getElem?_append_left (by have := hS.lw; omega)]; exact hwk
      have gd : (ints (fillX (coreN subs) (roomN cap) W M i).d ++ spd)[k]? = some (.int .i64 dx) := ints_get hdx spd
      have how := hSτ.hw k wk q hwk hq
      obtain ⟨Aw, Cw, rfl, hCw⟩ := how.is
      simp -implicitDefEqProofs (disch := first | omega | (simp only [St.set_n, St.up_n, List.length_cons, List.length_nil]; omega)) only [go_sem, Nat.reduceAdd, Nat.reduceMul, Nat.reduceSub, Int.reduceAdd, Int.reduceMul, Int.reduceSub, Int.reduceNeg, Int.reduceToNat, q2, q3, q8, q9, q10, hlt, hlt', n9, d0]
      have n9n := (hwτ.2 _ _ n9).2
      have mqn := (hwτ.2 _ _ mq).2
      have mdn := (hwτ.2 _ _ md).2
      refine effD_plan [0, 0, 2, 0, 0, 24, 56, 120, 254, 510, 1023, 2047] [1, 2, 3, 4, 5, 6, 7, 8, 9, 11] (.eag 1 (.eagq 2 (.eag 3 (.eag 4 (.eag 5 (.eagq 6 (.eag 7 (.eag 8 (.eagq 9 (.alt 0 [2, 6, 9] (.alt 10 [] (.eag 11 .fin) .stop) .stop)))))))))) (by kernel_rfl) ?_
      simp -implicitDefEqProofs (disch := first | omega | (simp only [St.set_n, St.up_n, List.length_cons, List.length_nil]; omega)) only [go_sem, Nat.reduceAdd, Nat.reduceMul, Nat.reduceSub, Int.reduceAdd, Int.reduceMul, Int.reduceSub, Int.reduceNeg, Int.reduceToNat, q2, q3, q8, q9, q10, hlt, hlt', n9, d0, e1, hk', mq, gq]
      have hw1 := set_wf1 (y := .raw (.cells #[] 40 (0, 0))) hwτ
      have hk1 : ∀ c y, τ.m c = some y → ((τ.set τ.n (.raw (.cells #[] 40 (0, 0)))).up (τ.n + 1)).m c = some y := fun c y hx => by
        have := (hwτ.2 _ _ hx).2
        simp -implicitDefEqProofs (disch := first | omega | (simp only [St.set_n, St.up_n, List.length_cons, List.length_nil]; omega)) only [go_sem, Nat.reduceAdd, Nat.reduceMul, Nat.reduceSub, Int.reduceAdd, Int.reduceMul, Int.reduceSub, Int.reduceNeg, Int.reduceToNat, hx]
      have how1 := how.keepR (σ' := (τ.set τ.n (.raw (.cells #[] 40 (0, 0)))).up (τ.n + 1)) fun b o _ ho => hk1 _ _ ho
      have hq16 := (hS.sm q (List.mem_of_getElem? hq)).1
      refine appN (b := τ.n) (s := (τ.set τ.n (.raw (.cells #[] 40 (0, 0)))).up (τ.n + 1)) hw1 (by simp -implicitDefEqProofs (disch := first | omega | (simp only [St.set_n, St.up_n, List.length_cons, List.length_nil]; omega)) only [go_sem, Nat.reduceAdd, Nat.reduceMul, Nat.reduceSub, Int.reduceAdd, Int.reduceMul, Int.reduceSub, Int.reduceNeg, Int.reduceToNat]) se23 kd23 zr40 rfl (by omega) how1.fc (by rw [flat_length fM_len]) (ones_msg _) (by omega) fun A6 C6 s6 hC6 o6 hk6 hb6 hn6 hw6 => ?_
      simp only [St.up_n] at hb6 hn6
      have hkτ6 : ∀ c y, τ.m c = some y → s6.m c = some y := fun c y hx => hk6 _ _ (hk1 _ _ hx) (by have := (hwτ.2 _ _ hx).2; omega)
      have r9 := hkτ6 _ _ n9
      have rq := hkτ6 _ _ mq
      have rd := hkτ6 _ _ md
      have hkσ6 : ∀ c y, s.m c = some y → s6.m c = some y := fun c y hx => hkτ6 _ _ (hkτ _ _ hx)
      have hF6 := hF.more hkσ6 (by omega)
      have hS6 := hS.keep (s' := s6) fun c o ho => hkσ6 c _ ho
      obtain ⟨_, hcw6⟩ := hrw s6 hw6
      obtain ⟨hbm6, hcm6⟩ := hrm s6 hw6
      have f0 := hcw6 0 _ rfl
      simp only [Nat.mul_one, Nat.add_zero] at f0
      have g0 := hcm6 0 (.string x.topic) rfl
      simp only [Nat.add_zero] at g0
      have g1 := hcm6 1 (.string x.pay) rfl
      have g2 := hcm6 2 (.bool x.kept) rfl
      have r9n := (hw6.2 _ _ r9).2
      have rqn := (hw6.2 _ _ rq).2
      have rdn := (hw6.2 _ _ rd).2
      have hgq : (fillX (coreN subs) (roomN cap) W M i).q.getD k [] = q := by rw [List.getD_eq_getElem?_getD, hq]; rfl
      have hgd : (fillX (coreN subs) (roomN cap) W M i).d.getD k 0 = dx := by rw [List.getD_eq_getElem?_getD, hdx]; rfl
      by_cases hr : (q.length : Int) < roomN cap
      · have hX : fill1 (coreN subs) (roomN cap) (fillX (coreN subs) (roomN cap) W M i) ((k : Int) + 1) x = ⟨(fillX (coreN subs) (roomN cap) W M i).q.set k (q ++ [x]), (fillX (coreN subs) (roomN cap) W M i).d⟩ := by
          unfold fill1
          rw [hin, e2, hgq, if_pos (show q.length < roomN cap by omega)]
          rfl
        rw [hX] at hstep
        simp -implicitDefEqProofs (disch := first | omega | (simp only [St.set_n, St.up_n, List.length_cons, List.length_nil]; omega)) only [go_sem, Nat.reduceAdd, Nat.reduceMul, Nat.reduceSub, Int.reduceAdd, Int.reduceMul, Int.reduceSub, Int.reduceNeg, Int.reduceToNat, q2, q3, q8, q9, q10, hlt, hlt', r9, f0, e1, hk', rq, gq, hr, g0, g1, g2]
        refine effD_plan [0, 1, 0, 0, 12, 28, 60, 0, 0, 0, 768, 1792, 3840, 8064, 16383, 32767] [0, 1, 2, 3, 4, 5, 6, 7, 8, 9, 10, 11, 14] (.eag 0 (.eagq 1 (.eag 2 (.eag 3 (.eag 4 (.eagq 5 (.eag 6 (.eag 7 (.eag 8 (.eag 9 (.eag 10 (.eagq 11 (.alt 12 [1, 5] (.alt 13 [1, 5] (.eag 14 (.alt 15 [] .fin .stop)) .stop) .stop))))))))))))) (by kernel_rfl) ?_
        simp -implicitDefEqProofs (disch := first | omega | (simp only [St.set_n, St.up_n, List.length_cons, List.length_nil]; omega)) only [go_sem, Nat.reduceAdd, Nat.reduceMul, Nat.reduceSub, Int.reduceAdd, Int.reduceMul, Int.reduceSub, Int.reduceNeg, Int.reduceToNat, q2, q3, q8, q9, q10, hlt, hlt', r9, f0, e1, hk', rq, gq, hr, g0, g1, g2]
        refine appE hw6 o6 se23 kd23 zr40 rfl (by omega) (ys := fM x) (ty := 40) rfl rfl (by omega) fun A7 C7 s7 hC7 o7 hk7 hb7 hn7 hw7 => ?_
        have hb6' : ∀ c, c < τ.n → blk (.slice A6 q.length C6) ≠ some c := fun c hc e => by have := hb6 c e; omega
        have hkτ7 : ∀ c y, τ.m c = some y → s7.m c = some y := fun c y hx => by
          have h1 := (hwτ.2 _ _ hx).2
          have h2 := hkτ6 c y hx
          rw [hk7 c (hw6.2 _ _ h2).2 (hb6' c h1)]; exact h2
        have t9 := hkτ7 _ _ n9
        have tq := hkτ7 _ _ mq
        obtain ⟨_, hcw7⟩ := hrw s7 hw7
        have f7 := hcw7 0 _ rfl
        simp only [Nat.mul_one, Nat.add_zero] at f7
        obtain ⟨hbm7, hcm7⟩ := hrm s7 hw7
        have hil : k < (ws ++ spq).length := by rw [List.length_append, hS.lw]; omega
        have hset : (ws ++ spq).set k (.slice A7 (q.length + 1) C7) = ws.set k (.slice A7 (q.length + 1) C7) ++ spq := List.set_append_left _ _ (by have := hS.lw; omega)
        simp -implicitDefEqProofs (disch := first | omega | (simp only [St.set_n, St.up_n, List.length_cons, List.length_nil]; omega)) only [go_sem, Nat.reduceAdd, Nat.reduceMul, Nat.reduceSub, Int.reduceAdd, Int.reduceMul, Int.reduceSub, Int.reduceNeg, Int.reduceToNat, q2, q3, q8, q9, q10, hlt, hlt', t9, f7, e1, hk', tq, gq, hr, hil]
        have hF7 := hF.more (s' := s7) (fun c y hx => hkτ7 _ _ (hkτ _ _ hx)) (by omega)
        have hS7 := hS.keep (s' := s7) fun c o ho => hkτ7 _ _ (hkτ _ _ ho)
        refine ⟨_, ?_, i + 1, rfl, by omega, ⟨by first | (simp -implicitDefEqProofs (disch := first | omega | (simp only [St.set_n, St.up_n, List.length_cons, List.length_nil]; omega)) only [go_sem, Nat.reduceAdd, Nat.reduceMul, Nat.reduceSub, Int.reduceAdd, Int.reduceMul, Int.reduceSub, Int.reduceNeg, Int.reduceToNat, q2]; done) | (simp -implicitDefEqProofs (disch := first | omega | (simp only [St.set_n, St.up_n, List.length_cons, List.length_nil]; omega)) only [go_sem, Nat.reduceAdd, Nat.reduceMul, Nat.reduceSub, Int.reduceAdd, Int.reduceMul, Int.reduceSub, Int.reduceNeg, Int.reduceToNat, q2]; exact ew.symm), by first | (simp -implicitDefEqProofs (disch := first | omega | (simp only [St.set_n, St.up_n, List.length_cons, List.length_nil]; omega)) only [go_sem, Nat.reduceAdd, Nat.reduceMul, Nat.reduceSub, Int.reduceAdd, Int.reduceMul, Int.reduceSub, Int.reduceNeg, Int.reduceToNat, q3]; done) | (simp -implicitDefEqProofs (disch := first | omega | (simp only [St.set_n, St.up_n, List.length_cons, List.length_nil]; omega)) only [go_sem, Nat.reduceAdd, Nat.reduceMul, Nat.reduceSub, Int.reduceAdd, Int.reduceMul, Int.reduceSub, Int.reduceNeg, Int.reduceToNat, q3]; exact em.symm), by simp -implicitDefEqProofs (disch := first | omega | (simp only [St.set_n, St.up_n, List.length_cons, List.length_nil]; omega)) only [go_sem, Nat.reduceAdd, Nat.reduceMul, Nat.reduceSub, Int.reduceAdd, Int.reduceMul, Int.reduceSub, Int.reduceNeg, Int.reduceToNat, q8], by simp -implicitDefEqProofs (disch := first | omega | (simp only [St.set_n, St.up_n, List.length_cons, List.length_nil]; omega)) only [go_sem, Nat.reduceAdd, Nat.reduceMul, Nat.reduceSub, Int.reduceAdd, Int.reduceMul, Int.reduceSub, Int.reduceNeg, Int.reduceToNat, q9], by simp -implicitDefEqProofs (disch := first | omega | (simp only [St.set_n, St.up_n, List.length_cons, List.length_nil]; omega)) only [go_sem, Nat.reduceAdd, Nat.reduceMul, Nat.reduceSub, Int.reduceAdd, Int.reduceMul, Int.reduceSub, Int.reduceNeg, Int.reduceToNat]; simp, by simp -implicitDefEqProofs (disch := first | omega | (simp only [St.set_n, St.up_n, List.length_cons, List.length_nil]; omega)) only [go_sem, Nat.reduceAdd, Nat.reduceMul, Nat.reduceSub, Int.reduceAdd, Int.reduceMul, Int.reduceSub, Int.reduceNeg, Int.reduceToNat, hd]⟩, ?_⟩
        · omega
        rw [hset, hstep]
        refine ⟨⟨Al, Cl, some ⟨bq, 0, none⟩, Cq, some ⟨bd, 0, none⟩, Cd, ws.set k (.slice A7 (q.length + 1) C7), nekT tq t9 (by decide), ⟨hS7.ol.setT tq (by decide), ?_, hS7.od.setT tq (by decide), by rw [List.length_set]; exact hS7.lw, by rw [List.length_set]; exact hS7.lq, hS7.ld, fun j w' q' hj1 hj2 => ?_, fun q' hq' => ?_, hS7.dd⟩, hq0, hd0⟩, nekT tq hF7.z (by decide), fun c y hx => ?_, by simp only [St.set_n]; have := hF.n; omega⟩
        · refine Own.of' (sp := spq) (by simp -implicitDefEqProofs (disch := first | omega | (simp only [St.set_n, St.up_n, List.length_cons, List.length_nil]; omega)) only [go_sem, Nat.reduceAdd, Nat.reduceMul, Nat.reduceSub, Int.reduceAdd, Int.reduceMul, Int.reduceSub, Int.reduceNeg, Int.reduceToNat]) (by rw [List.length_set, hS.lw]; simp) hcq (by rw [List.length_append, List.length_set]; rw [List.length_append] at lq2; exact lq2)
        · by_cases e : j = k
          · subst e
            rw [List.getElem?_set_self (by have := hS.lw; omega)] at hj1
            rw [List.getElem?_set_self (by have := hS.lq; omega)] at hj2
            cases hj1; cases hj2
            have e5 : flat fM (q ++ [x]) = flat fM q ++ fM x := by simp [flat]
            rw [e5, List.length_append]
            exact o7.setT tq (by decide)
          · rw [List.getElem?_set_ne (fun e' => e e'.symm)] at hj1 hj2
            exact (hS7.hw j w' q' hj1 hj2).setT tq (by decide)
        · rcases List.mem_or_eq_of_mem_set hq' with h1 | h1
          · exact hS7.sm q' h1
          · subst h1
            have hz := hS.sm q (List.mem_of_getElem? hq)
            refine ⟨by rw [List.length_append]; simp only [List.length_cons, List.length_nil]; omega, fun m hm => ?_⟩
            rcases List.mem_append.1 hm with h2 | h2
            · exact hz.2 m h2
            · rw [List.mem_singleton.1 h2]; exact hsm x (List.mem_of_getElem? hx)
        · have h1 := (hwf.2 _ _ hx).2
          have h2 := hq0 bq rfl
          rw [St.set_m_ne _ _ (by omega)]
          exact hF7.keep c y hx
      · have hX : fill1 (coreN subs) (roomN cap) (fillX (coreN subs) (roomN cap) W M i) ((k : Int) + 1) x = ⟨(fillX (coreN subs) (roomN cap) W M i).q, (fillX (coreN subs) (roomN cap) W M i).d.set k (dx + 1)⟩ := by
          unfold fill1
          rw [hin, e2, hgq, hgd, if_neg (show ¬ q.length < roomN cap by omega)]
          rfl
        rw [hX] at hstep
        have hdx0 := fillX_d (n := coreN subs) (rm := roomN cap) (W := W) (M := M) i dx (List.mem_of_getElem? hdx)
        have hil : k < (ints (fillX (coreN subs) (roomN cap) W M i).d ++ spd).length := by rw [List.length_append]; simp only [ints, List.length_map]; have := hS.ld; omega
        simp -implicitDefEqProofs (disch := first | omega | (simp only [St.set_n, St.up_n, List.length_cons, List.length_nil]; omega)) only [go_sem, Nat.reduceAdd, Nat.reduceMul, Nat.reduceSub, Int.reduceAdd, Int.reduceMul, Int.reduceSub, Int.reduceNeg, Int.reduceToNat, q2, q3, q8, q9, q10, hlt, hlt', r9, f0, e1, hk', rd, gd, hr, hil]
        refine effD_plan [0, 1, 0, 0, 12, 28, 60, 127, 255, 511, 1023, 2047] [0, 1, 2, 3, 4, 5, 6, 7, 8, 9, 10] (.eag 0 (.eagq 1 (.eag 2 (.eag 3 (.eag 4 (.eagq 5 (.eag 6 (.eag 7 (.eagq 8 (.eag 9 (.eag 10 (.alt 11 [] .fin .stop)))))))))))) (by kernel_rfl) ?_
        simp -implicitDefEqProofs (disch := first | omega | (simp only [St.set_n, St.up_n, List.length_cons, List.length_nil]; omega)) only [go_sem, Nat.reduceAdd, Nat.reduceMul, Nat.reduceSub, Int.reduceAdd, Int.reduceMul, Int.reduceSub, Int.reduceNeg, Int.reduceToNat, q2, q3, q8, q9, q10, hlt, hlt', r9, f0, e1, hk', rd, gd, hr, hil]
        refine ⟨_, ?_, i + 1, rfl, by omega, ⟨by first | (simp -implicitDefEqProofs (disch := first | omega | (simp only [St.set_n, St.up_n, List.length_cons, List.length_nil]; omega)) only [go_sem, Nat.reduceAdd, Nat.reduceMul, Nat.reduceSub, Int.reduceAdd, Int.reduceMul, Int.reduceSub, Int.reduceNeg, Int.reduceToNat, q2]; done) | (simp -implicitDefEqProofs (disch := first | omega | (simp only [St.set_n, St.up_n, List.length_cons, List.length_nil]; omega)) only [go_sem, Nat.reduceAdd, Nat.reduceMul, Nat.reduceSub, Int.reduceAdd, Int.reduceMul, Int.reduceSub, Int.reduceNeg, Int.reduceToNat, q2]; exact ew.symm), by first | (simp -implicitDefEqProofs (disch := first | omega | (simp only [St.set_n, St.up_n, List.length_cons, List.length_nil]; omega)) only [go_sem, Nat.reduceAdd, Nat.reduceMul, Nat.reduceSub, Int.reduceAdd, Int.reduceMul, Int.reduceSub, Int.reduceNeg, Int.reduceToNat, q3]; done) | (simp -implicitDefEqProofs (disch := first | omega | (simp only [St.set_n, St.up_n, List.length_cons, List.length_nil]; omega)) only [go_sem, Nat.reduceAdd, Nat.reduceMul, Nat.reduceSub, Int.reduceAdd, Int.reduceMul, Int.reduceSub, Int.reduceNeg, Int.reduceToNat, q3]; exact em.symm), by simp -implicitDefEqProofs (disch := first | omega | (simp only [St.set_n, St.up_n, List.length_cons, List.length_nil]; omega)) only [go_sem, Nat.reduceAdd, Nat.reduceMul, Nat.reduceSub, Int.reduceAdd, Int.reduceMul, Int.reduceSub, Int.reduceNeg, Int.reduceToNat, q8], by simp -implicitDefEqProofs (disch := first | omega | (simp only [St.set_n, St.up_n, List.length_cons, List.length_nil]; omega)) only [go_sem, Nat.reduceAdd, Nat.reduceMul, Nat.reduceSub, Int.reduceAdd, Int.reduceMul, Int.reduceSub, Int.reduceNeg, Int.reduceToNat, q9], by simp -implicitDefEqProofs (disch := first | omega | (simp only [St.set_n, St.up_n, List.length_cons, List.length_nil]; omega)) only [go_sem, Nat.reduceAdd, Nat.reduceMul, Nat.reduceSub, Int.reduceAdd, Int.reduceMul, Int.reduceSub, Int.reduceNeg, Int.reduceToNat]; simp, by simp -implicitDefEqProofs (disch := first | omega | (simp only [St.set_n, St.up_n, List.length_cons, List.length_nil]; omega)) only [go_sem, Nat.reduceAdd, Nat.reduceMul, Nat.reduceSub, Int.reduceAdd, Int.reduceMul, Int.reduceSub, Int.reduceNeg, Int.reduceToNat, hd]⟩, ?_⟩
        · omega
        have hset : (ints (fillX (coreN subs) (roomN cap) W M i).d ++ spd).set k (.int .i64 (dx + 1)) = ints ((fillX (coreN subs) (roomN cap) W M i).d.set k (dx + 1)) ++ spd := by
          rw [List.set_append_left _ _ (by simp only [ints, List.length_map]; have := hS.ld; omega)]
          simp [ints, List.map_set]
        rw [hset, hstep]
        refine ⟨⟨Al, Cl, some ⟨bq, 0, none⟩, Cq, some ⟨bd, 0, none⟩, Cd, ws, nekT rd r9 (by decide), ⟨hS6.ol.setT rd (by decide), hS6.oq.setT rd (by decide), Own.of' (sp := spd) (by simp -implicitDefEqProofs (disch := first | omega | (simp only [St.set_n, St.up_n, List.length_cons, List.length_nil]; omega)) only [go_sem, Nat.reduceAdd, Nat.reduceMul, Nat.reduceSub, Int.reduceAdd, Int.reduceMul, Int.reduceSub, Int.reduceNeg, Int.reduceToNat]) (by simp [ints, hS.ld]) hcd ?_, hS6.lw, hS6.lq, by rw [List.length_set]; exact hS6.ld, fun j w' q' hj1 hj2 => (hS6.hw j w' q' hj1 hj2).setT rd (by decide), hS6.sm, fun y hy => ?_⟩, hq0, hd0⟩, nekT rd hF6.z (by decide), fun c y hx => ?_, by simp only [St.set_n]; have := hF.n; omega⟩
        · rw [← hset, List.length_set]; exact ld2
        · rcases List.mem_or_eq_of_mem_set hy with h1 | h1
          · exact hS6.dd y h1
          · subst h1; omega
        · have h1 := (hwf.2 _ _ hx).2
          have h2 := hd0 bd rfl
          rw [St.set_m_ne _ _ (by omega)]
          exact hF6.keep c y hx
  · have hi' : i = M.length := by omega
    subst hi'
    have hlt' : ¬ ((M.length : Int) < M.length) := by omega
    rw [evw] at q2
    rw [evm] at q3
    have hz := hF.z
    simp -implicitDefEqProofs (disch := first | omega | (simp only [St.set_n, St.up_n, List.length_cons, List.length_nil]; omega)) only [go_sem, Nat.reduceAdd, Nat.reduceMul, Nat.reduceSub, Int.reduceAdd, Int.reduceMul, Int.reduceSub, Int.reduceNeg, Int.reduceToNat, q2, q3, q8, q9, q10, hlt, hlt', hm9, hz, hd]
    refine hK _ _ _ ws _ ⟨hS.ol.setT hz (by decide), hS.oq.setT hz (by decide), hS.od.setT hz (by decide), hS.lw, hS.lq, hS.ld, fun j w' q' hj1 hj2 => (hS.hw j w' q' hj1 hj2).setT hz (by decide), hS.sm, hS.dd⟩ (by simp only [St.set_n]; exact hF.n) (fun c y hx => ?_) (hws.set _ (hws.2 _ _ hz))
    have h1 := (hwf.2 _ _ hx).2
    rw [St.set_m_ne _ _ (by omega)]
    exact hF.keep c y hx
end
end Go.Proofs.YtdbgeahmhfocaaaGreat

/- 'CorePolls': what its threads do: there is an order. -/
namespace Go.Proofs.YtdbgeahmhfocaaaGreat
set_option linter.unusedSimpArgs false
set_option linter.unusedVariables false
set_option maxRecDepth 100000
open Go Go.RowKit
def sumN (f : Nat → Nat) : Nat → Nat
  | 0 => 0
  | n + 1 => sumN f n + f n
theorem sumN_congr {f g : Nat → Nat} : ∀ {n : Nat}, (∀ t, t < n → f t = g t) → sumN f n = sumN g n
  | 0, _ => rfl
  | n + 1, h => by rw [sumN, sumN, sumN_congr fun t ht => h t (by omega), h n (by omega)]
theorem sumN_upd {f : Nat → Nat} {t v : Nat} : ∀ {n : Nat}, t < n → sumN (updL f t v) n + f t = sumN f n + v
  | 0, h => by omega
  | n + 1, h => by
    rw [sumN, sumN]
    by_cases e : t = n
    · subst e
      have h1 : sumN (updL f t v) t = sumN f t := sumN_congr fun j hj => by unfold updL; rw [if_neg (by omega)]
      have h2 : updL f t v t = v := by unfold updL; rw [if_pos rfl]
      rw [h1, h2]; omega
    · have h1 := sumN_upd (f := f) (v := v) (show t < n by omega)
      have h2 : updL f t v n = f n := by unfold updL; rw [if_neg (fun e' => e e'.symm)]
      rw [h2]; omega
theorem sumN_zero {f : Nat → Nat} : ∀ {n : Nat}, (∀ t, t < n → f t = 0) → sumN f n = 0
  | 0, _ => rfl
  | n + 1, h => by rw [sumN, sumN_zero fun t ht => h t (by omega), h n (by omega)]
theorem sumN_mono {f g : Nat → Nat} : ∀ {n : Nat}, (∀ t, t < n → f t ≤ g t) → sumN f n ≤ sumN g n
  | 0, _ => Nat.le_refl _
  | n + 1, h => by
    have := sumN_mono (n := n) fun t ht => h t (by omega)
    have := h n (by omega)
    simp only [sumN]; omega
theorem sumN_mul {f : Nat → Nat} {k : Nat} : ∀ {n : Nat}, sumN (fun t => k * f t) n = k * sumN f n
  | 0 => by simp [sumN]
  | n + 1 => by rw [sumN, sumN, sumN_mul, Nat.mul_add]
/-- What a replay comes to. -/
abbrev Ent := Nat × COp × CAn
def Rp (n : Nat) (X : XS) : List Ent → XS → Prop
  | [], Y => X = Y
  | e :: r, Y => (xDo n X e.2.1).2 = e.2.2 ∧ Rp n (xDo n X e.2.1).1 r Y
theorem Rp.snoc {n : Nat} {j : Nat} {o : COp} {a : CAn} : ∀ {r : List Ent} {X Y : XS}, Rp n X r Y → (xDo n Y o).2 = a → Rp n X (r ++ [(j, o, a)]) (xDo n Y o).1
  | [], X, Y, h, ha => by
    have h : X = Y := h
    subst h
    exact ⟨ha, rfl⟩
  | e :: r, X, Y, h, ha => ⟨h.1, Rp.snoc h.2 ha⟩
def wA (nr : Nat) : CA → Nat
  | .bg op => if 1 ≤ op.sub ∧ op.sub ≤ nr then 4 else 2
  | .po _ _ _ => 2
  | _ => 1
def wT (nr : Nat) : List CA → Nat
  | [] => 0
  | a :: r => wA nr a + wT nr r
def nB : List CA → Nat
  | [] => 0
  | .bg _ :: r => 1 + nB r
  | _ :: r => nB r
def muC (nr n : Nat) (x : CU × (Nat → List CA)) : Nat := sumN (fun t => wT nr (x.2 t)) n
def nbC (n : Nat) (x : CU × (Nat → List CA)) : Nat := sumN (fun t => nB (x.2 t)) n
def xsOf (nr : Nat) (rg : Nat → RgS) : XS := ⟨(List.range nr).map fun i => (rg i).L, (List.range nr).map fun i => (rg i).D⟩
theorem xsOf_q {nr i : Nat} {rg : Nat → RgS} (hi : i < nr) : (xsOf nr rg).q.getD i [] = (rg i).L := by
  simp [xsOf, List.getD_eq_getElem?_getD, hi]
theorem xsOf_d {nr i : Nat} {rg : Nat → RgS} (hi : i < nr) : (xsOf nr rg).d.getD i 0 = (rg i).D := by
  simp [xsOf, List.getD_eq_getElem?_getD, hi]
theorem map_upd {α : Type} {f : Nat → RgS} {g : RgS → α} {nr i : Nat} {v : RgS} (hi : i < nr) : (List.range nr).map (fun j => g (updL f i v j)) = ((List.range nr).map fun j => g (f j)).set i (g v) := by
  apply List.ext_getElem?
  intro j
  by_cases hj : j < nr
  · by_cases e : j = i
    · subst e
      rw [List.getElem?_set_self (by simpa using hj)]
      simp [hj, updL_eq]
    · rw [List.getElem?_set_ne (fun e' => e e'.symm)]
      simp [hj, updL_ne e]
  · rw [List.getElem?_eq_none (by simp; omega), List.getElem?_eq_none (by simp; omega)]
theorem set_same' {α : Type} {l : List α} {i : Nat} {x : α} (h : l[i]? = some x) : l.set i x = l := by
  apply List.ext_getElem?
  intro j
  by_cases e : i = j
  · subst e
    rw [List.getElem?_set_self (List.getElem?_eq_some_iff.1 h).1, h]
  · rw [List.getElem?_set_ne e]
/-- What is done at one point is what the document does. -/
theorem po_xdo {nr i : Nat} {u : CU} {c : COp} (hi : i < nr) (hs : c.sub = (i : Int) + 1) (hk : c.kind = 4 ∨ c.kind = 5) :
    xDo nr (xsOf nr u.rg) c = (xsOf nr (u.po i (c.kind == 5)).rg, ansC (u.rg i) (c.kind == 5)) := by
  have hin : inR nr c.sub = true := by unfold inR; rw [decide_eq_true (by omega)]
  have e1 : (c.sub - 1).toNat = i := by omega
  have hmL : (xsOf nr u.rg).q[i]? = some (u.rg i).L := by simp [xsOf, hi]
  unfold xDo
  rw [hin, e1, xsOf_q hi, xsOf_d hi]
  simp only [if_true]
  rcases hk with hk | hk
  · have hne : ¬ c.kind = 5 := by omega
    have hb : (c.kind == 5) = false := by rw [hk]; rfl
    rw [if_neg hne, hb]
    have e2 : (xsOf nr (u.po i false).rg) = ⟨(xsOf nr u.rg).q.set i (u.rg i).L.tail, (xsOf nr u.rg).d⟩ := by
      unfold xsOf CU.po
      simp only
      rw [map_upd (g := fun r => r.L) hi, map_upd (g := fun r => r.D) hi]
      congr 1
      refine set_same' ?_
      simp [hi, rgC, pollR]
    rw [e2]
    by_cases hL : (u.rg i).L.length = 0
    · rw [if_pos hL]
      have hnil : (u.rg i).L = [] := List.length_eq_zero_iff.1 hL
      have e3 : (xsOf nr u.rg).q.set i (u.rg i).L.tail = (xsOf nr u.rg).q := set_same' (by rw [hmL, hnil]; rfl)
      rw [e3]
      unfold ansC pollA
      simp [hL]
    · rw [if_neg hL]
      unfold ansC pollA
      simp [hL]
  · have hb : (c.kind == 5) = true := by rw [hk]; rfl
    rw [if_pos hk, hb]
    have e2 : (u.po i true).rg = u.rg := by
      unfold CU.po rgC
      funext j
      simp only [if_true]
      unfold updL
      split
      · rename_i e; subst e; rfl
      · rfl
    rw [e2]
    rfl
theorem an_xdo {nr : Nat} {X : XS} {c : COp} (hs : ¬ (1 ≤ c.sub ∧ c.sub ≤ nr)) : xDo nr X c = (X, anE 4) := by
  have hin : inR nr c.sub = false := by unfold inR; rw [decide_eq_false hs]
  unfold xDo; rw [hin]; rfl
structure PendC (u : CU) (t j : Nat) (c : Cl) : Prop where
  at_ : u.log.l[j]? = some c
  th : c.th = t
  to : c.to = 0
  one : ∀ (j' : Nat) (c' : Cl), u.log.l[j']? = some c' → c'.th = t → c'.to = 0 → j' = j
/-- Where a thread is. -/
inductive PhC (nr : Nat) (u : CU) (ord : List Ent) (t : Nat) : List CA → Prop
  | idle (ops : List COp) : (∀ op ∈ ops, op.kind = 4 ∨ op.kind = 5) → (∀ (j : Nat) (c : Cl), u.log.l[j]? = some c → c.th = t → c.to ≠ 0) → PhC nr u ord t (ops.map .bg)
  | lk (ops : List COp) (i j : Nat) (c : Cl) : (∀ op ∈ ops, op.kind = 4 ∨ op.kind = 5) → PendC u t j c → i < nr → c.op.sub = (i : Int) + 1 → (∀ e ∈ ord, e.1 ≠ j) → PhC nr u ord t (.lk (4 + (i : Int)) :: .po i j (c.op.kind == 5) :: ops.map .bg)
  | po (ops : List COp) (i j : Nat) (c : Cl) : (∀ op ∈ ops, op.kind = 4 ∨ op.kind = 5) → PendC u t j c → i < nr → c.op.sub = (i : Int) + 1 → (∀ e ∈ ord, e.1 ≠ j) → (u.l (4 + i)).1 = (t : Int) + 1 → PhC nr u ord t (.po i j (c.op.kind == 5) :: ops.map .bg)
  | fe (ops : List COp) (i j : Nat) (c : Cl) (a : CAn) : (∀ op ∈ ops, op.kind = 4 ∨ op.kind = 5) → PendC u t j c → i < nr → (j, c.op, a) ∈ ord → (u.l (4 + i)).1 = (t : Int) + 1 → PhC nr u ord t (.fe (4 + (i : Int)) j a :: ops.map .bg)
  | an (ops : List COp) (j : Nat) (c : Cl) : (∀ op ∈ ops, op.kind = 4 ∨ op.kind = 5) → PendC u t j c → ¬ (1 ≤ c.op.sub ∧ c.op.sub ≤ nr) → ((∀ e ∈ ord, e.1 ≠ j) ∨ (j, c.op, anE 4) ∈ ord) → PhC nr u ord t (.an j :: ops.map .bg)
theorem PendC.other {u u' : CU} {t j : Nat} {c : Cl} (h : PendC u t j c) (hl : ∀ (j : Nat) (c : Cl), c.th = t → (u'.log.l[j]? = some c ↔ u.log.l[j]? = some c)) : PendC u' t j c :=
  ⟨(hl j c h.th).2 h.at_, h.th, h.to, fun j' c' h1 h2 h3 => h.one j' c' ((hl j' c' h2).1 h1) h2 h3⟩
theorem PhC.other {nr : Nat} {u u' : CU} {ord ord' : List Ent} {t : Nat} {T : List CA} (h : PhC nr u ord t T) (hl : ∀ (j : Nat) (c : Cl), c.th = t → (u'.log.l[j]? = some c ↔ u.log.l[j]? = some c))
    (hk : ∀ k, (u.l k).1 = (t : Int) + 1 → (u'.l k).1 = (t : Int) + 1) (ho : ∀ e ∈ ord, e ∈ ord') (ho2 : ∀ e ∈ ord', e ∈ ord ∨ ∃ c, u'.log.l[e.1]? = some c ∧ c.th ≠ t) : PhC nr u' ord' t T := by
  have hno : ∀ {j : Nat} {c : Cl}, PendC u t j c → (∀ e ∈ ord, e.1 ≠ j) → ∀ e ∈ ord', e.1 ≠ j := fun {j c} hp h1 e he ej => by
    rcases ho2 e he with h2 | ⟨c', h2, h3⟩
    · exact h1 e h2 ej
    · rw [ej, (hl j c hp.th).2 hp.at_] at h2
      cases h2
      exact h3 hp.th
  cases h with
  | idle ops ho1 h1 => exact .idle ops ho1 fun j c hc ht => h1 j c ((hl j c ht).1 hc) ht
  | lk ops i j c ho1 hp hi hs hn => exact .lk ops i j c ho1 (hp.other hl) hi hs (hno hp hn)
  | po ops i j c ho1 hp hi hs hn hlk => exact .po ops i j c ho1 (hp.other hl) hi hs (hno hp hn) (hk _ hlk)
  | fe ops i j c a ho1 hp hi ha hlk => exact .fe ops i j c a ho1 (hp.other hl) hi (ho _ ha) (hk _ hlk)
  | an ops j c ho1 hp hs hn => exact .an ops j c ho1 (hp.other hl) hs (hn.imp (hno hp) (ho _))
/-- Who holds a lock is about to do something. -/
def HoldsC (T : List CA) (k : Nat) : Prop := (∃ i j d r, T = .po i j d :: r ∧ k = 4 + i) ∨ ∃ (i j : Nat) (a : CAn) (r : List CA), T = .fe (4 + (i : Int)) j a :: r ∧ k = 4 + i
structure GdC (nr rn n N M : Nat) (X0 : XS) (x : CU × (Nat → List CA)) (ord : List Ent) : Prop where
  wl : Wl x.1.log
  ln : x.1.log.l.length ≤ x.1.log.now
  ph : ∀ t, t < n → PhC nr x.1 ord t (x.2 t)
  th : ∀ (j : Nat) (c : Cl), x.1.log.l[j]? = some c → (∃ t, t < n ∧ c.th = (t : Nat)) ∧ (c.op.kind = 4 ∨ c.op.kind = 5)
  lk : ∀ k, (x.1.l k).1 ≠ 0 → ∃ t, t < n ∧ (x.1.l k).1 = (t : Int) + 1 ∧ HoldsC (x.2 t) k
  rp : Rp nr X0 ord (xsOf nr x.1.rg)
  nd : (ord.map (·.1)).Nodup
  mem : ∀ e ∈ ord, ∃ c, x.1.log.l[e.1]? = some c ∧ c.op = e.2.1 ∧ (c.to ≠ 0 → c.an = e.2.2)
  cpl : ∀ (j : Nat) (c : Cl), x.1.log.l[j]? = some c → c.to ≠ 0 → ∃ e ∈ ord, e.1 = j
  pw : ord.Pairwise fun e e' => ∀ c c', x.1.log.l[e.1]? = some c → x.1.log.l[e'.1]? = some c' → c'.to = 0 ∨ c.fr ≤ c'.to
  now : x.1.log.now + muC nr n x ≤ N
  len : x.1.log.l.length + nbC n x ≤ M
  g : ∀ i, (x.1.rg i).G + muC nr n x ≤ N
  rl : ∀ i, i < nr → (x.1.rg i).L.length ≤ rn
theorem wT_app (nr : Nat) : ∀ (a b : List CA), wT nr (a ++ b) = wT nr a + wT nr b
  | [], b => by simp [wT]
  | x :: a, b => by rw [List.cons_append, wT, wT, wT_app nr a b]; omega
theorem nB_app : ∀ (a b : List CA), nB (a ++ b) = nB a + nB b
  | [], b => by simp [nB]
  | x :: a, b => by
    have := nB_app a b
    cases x <;> simp only [List.cons_append, nB, this] <;> omega
theorem mu_upd {nr n t : Nat} {u u' : CU} {T : Nat → List CA} {T' : List CA} (ht : t < n) (h : wT nr T' + 1 = wT nr (T t)) : muC nr n (u', updL T t T') + 1 = muC nr n (u, T) := by
  unfold muC
  have hf : (fun j => wT nr (updL T t T' j)) = updL (fun j => wT nr (T j)) t (wT nr T') := by
    funext j
    unfold updL
    split <;> rfl
  have h4 := sumN_upd (f := fun j => wT nr (T j)) (v := wT nr T') ht
  simp only at h4 ⊢
  rw [hf]
  omega
theorem nb_upd {n t : Nat} {u u' : CU} {T : Nat → List CA} {T' : List CA} (ht : t < n) : nbC n (u', updL T t T') + nB (T t) = nbC n (u, T) + nB T' := by
  unfold nbC
  have hf : (fun j => nB (updL T t T' j)) = updL (fun j => nB (T j)) t (nB T') := by
    funext j
    unfold updL
    split <;> rfl
  have h4 := sumN_upd (f := fun j => nB (T j)) (v := nB T') ht
  simp only at h4 ⊢
  rw [hf]
  omega
theorem ord_uniq {ord : List Ent} (hnd : (ord.map (·.1)).Nodup) {e e' : Ent} (h : e ∈ ord) (h' : e' ∈ ord) (he : e.1 = e'.1) : e = e' := by
  induction ord with
  | nil => cases h
  | cons x r ih =>
    rw [List.map_cons, List.nodup_cons] at hnd
    rcases List.mem_cons.1 h with g | g
    · rcases List.mem_cons.1 h' with g' | g'
      · rw [g, g']
      · exact absurd (by rw [← g, he]; exact List.mem_map_of_mem (f := (·.1)) g') hnd.1
    · rcases List.mem_cons.1 h' with g' | g'
      · exact absurd (by rw [← g', ← he]; exact List.mem_map_of_mem (f := (·.1)) g) hnd.1
      · exact ih hnd.2 g g'
/-! ### A call begins -/
theorem gd_bg {nr rn n N M : Nat} {X0 : XS} {u : CU} {T : Nat → List CA} {ord : List Ent} (hg : GdC nr rn n N M X0 (u, T) ord) {t : Nat} (ht : t < n) {op : COp} {ops : List COp} (hT : T t = .bg op :: ops.map .bg) (hop : ∀ o ∈ op :: ops, o.kind = 4 ∨ o.kind = 5)
    (hid : ∀ (j : Nat) (c : Cl), u.log.l[j]? = some c → c.th = t → c.to ≠ 0) : GdC nr rn n N M X0 ({ u with log := u.log.begin t op }, updL T t (aft nr op u.log.l.length ++ ops.map .bg)) ord ∧ wT nr (aft nr op u.log.l.length ++ ops.map .bg) + 1 = wT nr (T t) := by
  have hw : wT nr (aft nr op u.log.l.length ++ ops.map .bg) + 1 = wT nr (T t) := by
    rw [hT, wT_app]
    unfold aft
    simp only [wT, wA]
    by_cases h : 1 ≤ op.sub ∧ op.sub ≤ nr
    · rw [if_pos h, if_pos h]; simp only [wT, wA]; omega
    · rw [if_neg h, if_neg h]; simp only [wT, wA]; omega
  refine ⟨?_, hw⟩
  have hl : ∀ (j : Nat) (c : Cl), (u.log.begin t op).l[j]? = some c ↔ (j < u.log.l.length ∧ u.log.l[j]? = some c) ∨ (j = u.log.l.length ∧ c = ⟨t, cnt u.log.l t, op, an0, u.log.now + 1, 0⟩) := fun j c => by
    simp only [LS.begin]
    rcases Nat.lt_trichotomy j u.log.l.length with h1 | h1 | h1
    · rw [List.getElem?_append_left h1]
      exact ⟨fun h => .inl ⟨h1, h⟩, fun h => h.elim (fun h => h.2) fun h => by omega⟩
    · rw [List.getElem?_append_right (by omega), h1, Nat.sub_self]
      simp only [List.getElem?_cons_zero, Option.some.injEq]
      exact ⟨fun h => .inr ⟨trivial, h.symm⟩, fun h => h.elim (fun h => by omega) fun h => h.2.symm⟩
    · rw [List.getElem?_eq_none (by simp; omega)]
      exact ⟨fun h => (by cases h), fun h => h.elim (fun h => by omega) fun h => by omega⟩
  have hold : ∀ (j : Nat) (c : Cl), u.log.l[j]? = some c → (u.log.begin t op).l[j]? = some c := fun j c hc => (hl j c).2 (.inl ⟨(List.getElem?_eq_some_iff.1 hc).1, hc⟩)
  have hback : ∀ (j : Nat) (c : Cl), j < u.log.l.length → (u.log.begin t op).l[j]? = some c → u.log.l[j]? = some c := fun j c hj hc => ((hl j c).1 hc).elim (fun h => h.2) fun h => by omega
  have hin : ∀ e ∈ ord, e.1 < u.log.l.length := fun e he => by
    obtain ⟨c, hc, _⟩ := hg.mem e he
    exact (List.getElem?_eq_some_iff.1 hc).1
  have hmu := mu_upd (u := u) (u' := { u with log := u.log.begin t op }) ht hw
  have hnb := nb_upd (u := u) (u' := { u with log := u.log.begin t op }) (T := T) (T' := aft nr op u.log.l.length ++ ops.map .bg) ht
  have hnn : nB (aft nr op u.log.l.length ++ ops.map .bg) + 1 = nB (T t) := by
    rw [hT, nB_app]
    unfold aft
    split <;> simp only [nB] <;> omega
  have hnow : (u.log.begin t op).now = u.log.now + 1 := rfl
  have hlen : (u.log.begin t op).l.length = u.log.l.length + 1 := by simp [LS.begin]
  have hno : ∀ e ∈ ord, e.1 ≠ u.log.l.length := fun e he => by have := hin e he; omega
  have hpend : PendC { u with log := u.log.begin t op } t u.log.l.length ⟨t, cnt u.log.l t, op, an0, u.log.now + 1, 0⟩ := ⟨(hl _ _).2 (.inr ⟨rfl, rfl⟩), rfl, rfl, fun j' c' h1 h2 h3 => by
    rcases (hl j' c').1 h1 with h | h
    · exact absurd h3 (hid j' c' h.2 h2)
    · exact h.1⟩
  have hnow0 := hg.now
  have hlen0 := hg.len
  refine ⟨hg.wl.begin op hg.ln hid, ?_, fun t' ht' => ?_, fun j c hc => ?_, fun k hk => ?_, hg.rp, hg.nd, fun e he => ?_, fun j c hc h0 => ?_, ?_, ?_, ?_, fun i => ?_, hg.rl⟩
  · show (u.log.begin t op).l.length ≤ (u.log.begin t op).now
    have := hg.ln
    rw [hlen, hnow]; simp only at this; omega
  · show PhC nr _ ord t' (updL T t _ t')
    by_cases e : t' = t
    · subst e
      rw [updL_eq]
      unfold aft
      have hops : ∀ o ∈ ops, o.kind = 4 ∨ o.kind = 5 := fun o ho => hop o (by simp [ho])
      by_cases h : 1 ≤ op.sub ∧ op.sub ≤ nr
      · rw [if_pos h]
        obtain ⟨i, hi⟩ : ∃ i : Nat, op.sub = (i : Int) + 1 := ⟨(op.sub - 1).toNat, by omega⟩
        have e1 : (op.sub - 1).toNat = i := by omega
        have e2 : 3 + op.sub = 4 + (i : Int) := by omega
        rw [e1, e2]
        exact .lk ops i _ _ hops hpend (by omega) hi hno
      · rw [if_neg h]
        exact .an ops _ _ hops hpend h (.inl hno)
    · rw [updL_ne e]
      refine (hg.ph t' ht').other (fun j c hc => ?_) (fun k hk => hk) (fun e he => he) fun e he => .inl he
      refine ⟨fun h => ((hl j c).1 h).elim (fun h => h.2) fun h => ?_, hold j c⟩
      rw [h.2] at hc
      simp only at hc
      omega
  · rcases (hl j c).1 hc with h | h
    · exact hg.th j c h.2
    · rw [h.2]
      exact ⟨⟨t, ht, rfl⟩, hop op (by simp)⟩
  · obtain ⟨t', h1, h2, h3⟩ := hg.lk k hk
    refine ⟨t', h1, h2, ?_⟩
    have : t' ≠ t := fun e => by
      subst e
      simp only [hT] at h3
      rcases h3 with ⟨_, _, _, _, h, _⟩ | ⟨_, _, _, _, h, _⟩ <;> cases h
    simp only [updL_ne this]
    exact h3
  · obtain ⟨c, hc, h⟩ := hg.mem e he
    exact ⟨c, hold _ _ hc, h⟩
  · rcases (hl j c).1 hc with h | h
    · exact hg.cpl j c h.2 h0
    · rw [h.2] at h0; exact absurd rfl h0
  · refine hg.pw.imp_of_mem fun {e e'} he he' h c c' hc hc' => h c c' (hback _ _ (hin e he) hc) (hback _ _ (hin e' he') hc')
  · show (u.log.begin t op).now + _ ≤ N
    rw [hnow]; simp only at hnow0; omega
  · show (u.log.begin t op).l.length + _ ≤ M
    rw [hlen]; simp only at hlen0; omega
  · have := hg.g i
    simp only at this ⊢
    omega
end Go.Proofs.YtdbgeahmhfocaaaGreat

/- 'CorePolls': each step keeps what holds. -/
namespace Go.Proofs.YtdbgeahmhfocaaaGreat
set_option linter.unusedSimpArgs false
set_option linter.unusedVariables false
set_option maxRecDepth 100000
open Go Go.RowKit
variable {nr rn n N M : Nat} {X0 : XS} {u : CU} {T : Nat → List CA} {ord : List Ent} {t : Nat}
theorem tryT_own {x : Lk} {uo : Int} (h1 : 1 ≤ uo) : (tryT x uo).1 = if x.1 = 0 then uo else x.1 := by
  unfold tryT
  rw [if_neg (by omega)]
  split <;> rfl
theorem freeT_own {x : Lk} {uo : Int} (h1 : 1 ≤ uo) : (freeT x uo).1 = if x.1 = uo then 0 else x.1 := by
  unfold freeT
  rw [if_neg (by omega)]
  split <;> rfl
theorem try_l {uo : Int} {i : Nat} (h1 : 1 ≤ uo) (hi : 4 + i < 12) (k : Nat) : ((u.try uo (4 + (i : Int))).l k).1 = if k = 4 + i ∧ (u.l k).1 = 0 then uo else (u.l k).1 := by
  have e : (4 + (i : Int)).toNat = 4 + i := by omega
  unfold CU.try
  rw [if_pos (by omega), e]
  simp only
  by_cases hk : k = 4 + i
  · subst hk
    rw [updL_eq, tryT_own h1]
    by_cases h0 : (u.l (4 + i)).1 = 0
    · rw [if_pos h0, if_pos ⟨rfl, h0⟩]
    · rw [if_neg h0, if_neg (fun h => h0 h.2)]
  · rw [updL_ne hk, if_neg (fun h => hk h.1)]
theorem free_l {uo : Int} {i : Nat} (h1 : 1 ≤ uo) (hi : 4 + i < 12) (k : Nat) : ((u.free uo (4 + (i : Int))).l k).1 = if k = 4 + i ∧ (u.l k).1 = uo then 0 else (u.l k).1 := by
  have e : (4 + (i : Int)).toNat = 4 + i := by omega
  unfold CU.free
  rw [if_pos (by omega), e]
  simp only
  by_cases hk : k = 4 + i
  · subst hk
    rw [updL_eq, freeT_own h1]
    by_cases h0 : (u.l (4 + i)).1 = uo
    · rw [if_pos h0, if_pos ⟨rfl, h0⟩]
    · rw [if_neg h0, if_neg (fun h => h0 h.2)]
  · rw [updL_ne hk, if_neg (fun h => hk h.1)]
theorem try_log {uo i : Int} : (u.try uo i).log = u.log := by unfold CU.try; split <;> rfl
theorem try_rg {uo i : Int} : (u.try uo i).rg = u.rg := by unfold CU.try; split <;> rfl
theorem free_log {uo i : Int} : (u.free uo i).log = u.log := by unfold CU.free; split <;> rfl
theorem free_rg {uo i : Int} : (u.free uo i).rg = u.rg := by unfold CU.free; split <;> rfl
/-- A lock is asked for. -/
theorem gd_lk (hr8 : nr ≤ 8) (hg : GdC nr rn n N M X0 (u, T) ord) (ht : t < n) {i j : Nat} {c : Cl} {ops : List COp} (hT : T t = .lk (4 + (i : Int)) :: .po i j (c.op.kind == 5) :: ops.map .bg) (hop : ∀ op ∈ ops, op.kind = 4 ∨ op.kind = 5)
    (hp : PendC u t j c) (hi : i < nr) (hs : c.op.sub = (i : Int) + 1) (hn : ∀ e ∈ ord, e.1 ≠ j) :
    ((u.l (4 + i)).1 = 0 → GdC nr rn n N M X0 (u.try ((t : Int) + 1) (4 + (i : Int)), updL T t (.po i j (c.op.kind == 5) :: ops.map .bg)) ord) ∧
    ((u.l (4 + i)).1 ≠ 0 → GdC nr rn n N M X0 (u.try ((t : Int) + 1) (4 + (i : Int)), T) ord ∧ ∀ k, ((u.try ((t : Int) + 1) (4 + (i : Int))).l k).1 = (u.l k).1) := by
  have hl := fun k => try_l (u := u) (uo := (t : Int) + 1) (i := i) (by omega) (by omega) k
  have hlog : (u.try ((t : Int) + 1) (4 + (i : Int))).log = u.log := try_log
  have hrg : (u.try ((t : Int) + 1) (4 + (i : Int))).rg = u.rg := try_rg
  have hnow0 := hg.now
  have hlen0 := hg.len
  refine ⟨fun h0 => ?_, fun h0 => ?_⟩
  · have hmu := mu_upd (nr := nr) (u := u) (u' := u.try ((t : Int) + 1) (4 + (i : Int))) (T := T) (T' := .po i j (c.op.kind == 5) :: ops.map .bg) ht (by rw [hT]; simp only [wT, wA]; omega)
    have hnb := nb_upd (u := u) (u' := u.try ((t : Int) + 1) (4 + (i : Int))) (T := T) (T' := .po i j (c.op.kind == 5) :: ops.map .bg) ht
    have hnn : nB (.po i j (c.op.kind == 5) :: ops.map .bg) = nB (T t) := by rw [hT]; rfl
    generalize hu' : u.try ((t : Int) + 1) (4 + (i : Int)) = u' at hl hlog hrg hmu hnb ⊢
    refine ⟨by rw [hlog]; exact hg.wl, by rw [hlog]; exact hg.ln, fun t' ht' => ?_, by rw [hlog]; exact hg.th, fun k hk => ?_, by rw [hrg]; exact hg.rp, hg.nd, by rw [hlog]; exact hg.mem, by rw [hlog]; exact hg.cpl, by rw [hlog]; exact hg.pw, ?_, ?_, fun i => ?_, by rw [hrg]; exact hg.rl⟩
    · by_cases e : t' = t
      · subst e
        simp only [updL_eq]
        refine .po ops i j c hop ⟨by rw [hlog]; exact hp.at_, hp.th, hp.to, by rw [hlog]; exact hp.one⟩ hi hs hn ?_
        rw [hl, if_pos ⟨rfl, h0⟩]
      · simp only [updL_ne e]
        refine (hg.ph t' ht').other (fun j c _ => by rw [hlog]) (fun k hk => ?_) (fun e he => he) fun e he => .inl he
        rw [hl, if_neg]
        · exact hk
        · rintro ⟨_, h⟩
          simp only at hk
          omega
    · simp only at hk ⊢
      rw [hl] at hk ⊢
      by_cases e : k = 4 + i ∧ (u.l k).1 = 0
      · rw [if_pos e]
        refine ⟨t, ht, rfl, ?_⟩
        rw [updL_eq]
        exact .inl ⟨_, _, _, _, rfl, e.1⟩
      · rw [if_neg e] at hk ⊢
        obtain ⟨t', h1, h2, h3⟩ := hg.lk k hk
        refine ⟨t', h1, h2, ?_⟩
        have : t' ≠ t := fun e => by
          subst e
          simp only [hT] at h3
          rcases h3 with ⟨_, _, _, _, h, _⟩ | ⟨_, _, _, _, h, _⟩ <;> cases h
        rw [updL_ne this]
        exact h3
    · simp only at hnow0 ⊢; rw [hlog]; omega
    · simp only at hlen0 ⊢; rw [hlog]; omega
    · have := hg.g i
      simp only at this ⊢
      rw [hrg]; omega
  · have hl' : ∀ k, ((u.try ((t : Int) + 1) (4 + (i : Int))).l k).1 = (u.l k).1 := fun k => by
      rw [hl, if_neg]
      rintro ⟨rfl, h⟩
      exact h0 h
    refine ⟨?_, hl'⟩
    have hmu : muC nr n (u.try ((t : Int) + 1) (4 + (i : Int)), T) = muC nr n (u, T) := rfl
    have hnb : nbC n (u.try ((t : Int) + 1) (4 + (i : Int)), T) = nbC n (u, T) := rfl
    generalize hu' : u.try ((t : Int) + 1) (4 + (i : Int)) = u' at hl' hlog hrg hmu hnb ⊢
    refine ⟨by rw [hlog]; exact hg.wl, by rw [hlog]; exact hg.ln, fun t' ht' => ?_, by rw [hlog]; exact hg.th, fun k hk => ?_, by rw [hrg]; exact hg.rp, hg.nd, by rw [hlog]; exact hg.mem, by rw [hlog]; exact hg.cpl, by rw [hlog]; exact hg.pw, ?_, ?_, fun i => ?_, by rw [hrg]; exact hg.rl⟩
    · exact (hg.ph t' ht').other (fun j c _ => by rw [hlog]) (fun k hk => by rw [hl']; exact hk) (fun e he => he) fun e he => .inl he
    · simp only at hk ⊢
      rw [hl'] at hk ⊢
      exact hg.lk k hk
    · simp only at hnow0 ⊢; rw [hlog, hmu]; exact hnow0
    · simp only at hlen0 ⊢; rw [hlog, hnb]; exact hlen0
    · have := hg.g i
      simp only at this ⊢
      rw [hrg, hmu]; exact this
/-- The one point. -/
theorem gd_po (hg : GdC nr rn n N M X0 (u, T) ord) (ht : t < n) {i j : Nat} {c : Cl} {ops : List COp} (hT : T t = .po i j (c.op.kind == 5) :: ops.map .bg) (hop : ∀ op ∈ ops, op.kind = 4 ∨ op.kind = 5)
    (hp : PendC u t j c) (hi : i < nr) (hs : c.op.sub = (i : Int) + 1) (hn : ∀ e ∈ ord, e.1 ≠ j) (hlk : (u.l (4 + i)).1 = (t : Int) + 1) :
    GdC nr rn n N M X0 (u.po i (c.op.kind == 5), updL T t (.fe (4 + (i : Int)) j (ansC (u.rg i) (c.op.kind == 5)) :: ops.map .bg)) (ord ++ [(j, c.op, ansC (u.rg i) (c.op.kind == 5))]) := by
  have hkd := (hg.th j c hp.at_).2
  have hx := po_xdo (u := u) hi hs hkd
  have hrp := Rp.snoc (j := j) (o := c.op) (a := ansC (u.rg i) (c.op.kind == 5)) hg.rp (by simp only; rw [hx])
  simp only [hx] at hrp
  have hnow0 := hg.now
  have hlen0 := hg.len
  have hmu := mu_upd (nr := nr) (u := u) (u' := u.po i (c.op.kind == 5)) (T := T) (T' := .fe (4 + (i : Int)) j (ansC (u.rg i) (c.op.kind == 5)) :: ops.map .bg) ht (by rw [hT]; simp only [wT, wA]; omega)
  have hnb := nb_upd (u := u) (u' := u.po i (c.op.kind == 5)) (T := T) (T' := .fe (4 + (i : Int)) j (ansC (u.rg i) (c.op.kind == 5)) :: ops.map .bg) ht
  have hnn : nB (.fe (4 + (i : Int)) j (ansC (u.rg i) (c.op.kind == 5)) :: ops.map .bg) = nB (T t) := by rw [hT]; rfl
  have hGL : ∀ k, ((u.po i (c.op.kind == 5)).rg k).G ≤ (u.rg k).G + 1 ∧ ((u.po i (c.op.kind == 5)).rg k).L.length ≤ (u.rg k).L.length := fun k => by
    unfold CU.po
    simp only
    by_cases e : k = i
    · subst e
      rw [updL_eq]
      unfold rgC pollR
      split
      · omega
      · simp only [List.length_tail]
        split <;> omega
    · rw [updL_ne e]; omega
  have hl : (u.po i (c.op.kind == 5)).l = u.l := rfl
  have hlog : (u.po i (c.op.kind == 5)).log = u.log := rfl
  generalize hA : ansC (u.rg i) (c.op.kind == 5) = A at hrp hmu hnb hnn ⊢
  generalize hu' : u.po i (c.op.kind == 5) = u' at hl hlog hrp hmu hnb hGL ⊢
  refine ⟨by rw [hlog]; exact hg.wl, by rw [hlog]; exact hg.ln, fun t' ht' => ?_, by rw [hlog]; exact hg.th, fun k hk => ?_, hrp, ?_, fun e he => ?_, fun j' c' hc h0 => ?_, ?_, ?_, ?_, fun k => ?_, fun k hk => ?_⟩
  · by_cases e : t' = t
    · subst e
      simp only [updL_eq]
      refine .fe ops i j c A hop ⟨by rw [hlog]; exact hp.at_, hp.th, hp.to, by rw [hlog]; exact hp.one⟩ hi (by simp) (by rw [hl]; exact hlk)
    · simp only [updL_ne e]
      refine (hg.ph t' ht').other (fun j c _ => by rw [hlog]) (fun k hk => by rw [hl]; exact hk) (fun e he => List.mem_append_left _ he) fun e' he => ?_
      rcases List.mem_append.1 he with h | h
      · exact .inl h
      · rw [List.mem_singleton.1 h]
        refine .inr ⟨c, by rw [hlog]; exact hp.at_, fun h => ?_⟩
        have := hp.th
        rw [h] at this
        omega
  · simp only at hk ⊢
    rw [hl] at hk ⊢
    obtain ⟨t', h1, h2, h3⟩ := hg.lk k hk
    refine ⟨t', h1, h2, ?_⟩
    by_cases e : t' = t
    · subst e
      rw [updL_eq]
      simp only [hT] at h3
      rcases h3 with ⟨_, _, _, _, h, h4⟩ | ⟨_, _, _, _, h, _⟩
      · cases h
        exact .inr ⟨_, _, _, _, rfl, h4⟩
      · cases h
    · rw [updL_ne e]; exact h3
  · rw [List.map_append, List.nodup_append]
    refine ⟨hg.nd, by simp, fun a ha b hb => ?_⟩
    obtain ⟨e, he, rfl⟩ := List.mem_map.1 ha
    simp only [List.map_cons, List.map_nil, List.mem_singleton] at hb
    rw [hb]
    exact hn e he
  · rw [hlog]
    rcases List.mem_append.1 he with h | h
    · exact hg.mem e h
    · rw [List.mem_singleton.1 h]
      exact ⟨c, hp.at_, rfl, fun h => absurd hp.to h⟩
  · rw [hlog] at hc
    obtain ⟨e, h1, h2⟩ := hg.cpl j' c' hc h0
    exact ⟨e, List.mem_append_left _ h1, h2⟩
  · rw [hlog, List.pairwise_append]
    refine ⟨hg.pw, by simp, fun e he e' he' c1 c2 h1 h2 => ?_⟩
    rw [List.mem_singleton.1 he'] at h2
    simp only [hp.at_, Option.some.injEq] at h2
    rw [← h2]
    exact .inl hp.to
  · simp only at hnow0 ⊢; rw [hlog]; omega
  · simp only at hlen0 ⊢; rw [hlog]; omega
  · have h1 := hg.g k
    have h2 := (hGL k).1
    simp only at h1 ⊢
    omega
  · have h1 := hg.rl k hk
    have h2 := (hGL k).2
    simp only at h1 ⊢
    omega
/-- Who isn't there is told so, at any point. -/
theorem gd_an (hg : GdC nr rn n N M X0 (u, T) ord) {j : Nat} {c : Cl} {ops : List COp} (hT : T t = .an j :: ops.map .bg) (hop : ∀ op ∈ ops, op.kind = 4 ∨ op.kind = 5)
    (hp : PendC u t j c) (hs : ¬ (1 ≤ c.op.sub ∧ c.op.sub ≤ nr)) (hn : ∀ e ∈ ord, e.1 ≠ j) : GdC nr rn n N M X0 (u, T) (ord ++ [(j, c.op, anE 4)]) := by
  have hx := an_xdo (X := xsOf nr u.rg) hs
  have hrp := Rp.snoc (j := j) (o := c.op) (a := anE 4) hg.rp (by simp only; rw [hx])
  simp only [hx] at hrp
  refine ⟨hg.wl, hg.ln, fun t' ht' => ?_, hg.th, hg.lk, hrp, ?_, fun e he => ?_, fun j' c' hc h0 => ?_, ?_, hg.now, hg.len, hg.g, hg.rl⟩
  · by_cases e : t' = t
    · subst e
      simp only [hT]
      exact .an ops j c hop hp hs (.inr (by simp))
    · refine (hg.ph t' ht').other (fun j c _ => Iff.rfl) (fun k hk => hk) (fun e he => List.mem_append_left _ he) fun e' he => ?_
      rcases List.mem_append.1 he with h | h
      · exact .inl h
      · rw [List.mem_singleton.1 h]
        refine .inr ⟨c, hp.at_, fun h => ?_⟩
        have := hp.th
        rw [h] at this
        omega
  · rw [List.map_append, List.nodup_append]
    refine ⟨hg.nd, by simp, fun a ha b hb => ?_⟩
    obtain ⟨e, he, rfl⟩ := List.mem_map.1 ha
    simp only [List.map_cons, List.map_nil, List.mem_singleton] at hb
    rw [hb]
    exact hn e he
  · rcases List.mem_append.1 he with h | h
    · exact hg.mem e h
    · rw [List.mem_singleton.1 h]
      exact ⟨c, hp.at_, rfl, fun h => absurd hp.to h⟩
  · obtain ⟨e, h1, h2⟩ := hg.cpl j' c' hc h0
    exact ⟨e, List.mem_append_left _ h1, h2⟩
  · rw [List.pairwise_append]
    refine ⟨hg.pw, by simp, fun e he e' he' c1 c2 h1 h2 => ?_⟩
    rw [List.mem_singleton.1 he'] at h2
    simp only [hp.at_, Option.some.injEq] at h2
    rw [← h2]
    exact .inl hp.to
/-! ### A call ends -/
theorem fin_get {S : LS} {j : Nat} {c : Cl} {a : CAn} (hc : S.l[j]? = some c) : S.fin j a = S.fin4 j c a := by
  unfold LS.fin LS.fin4; rw [hc]
theorem gd_end (hg : GdC nr rn n N M X0 (u, T) ord) (ht : t < n) {u1 : CU} (h1l : u1.log = u.log) (h1r : u1.rg = u.rg) {j : Nat} {c : Cl} {a : CAn} {x : CA} {ops : List COp} (hT : T t = x :: ops.map .bg) (hx : wA nr x = 1) (hxb : ∀ r, nB (x :: r) = nB r) (hop : ∀ op ∈ ops, op.kind = 4 ∨ op.kind = 5)
    (hp : PendC u t j c) (ha : (j, c.op, a) ∈ ord) (hlk : ∀ k, (u1.l k).1 = (u.l k).1 ∨ ((u.l k).1 = (t : Int) + 1 ∧ (u1.l k).1 = 0)) (hno : ∀ k, (u1.l k).1 ≠ (t : Int) + 1) :
    GdC nr rn n N M X0 (u1.fin j a, updL T t (ops.map .bg)) ord := by
  have hnow0 := hg.now
  have hlen0 := hg.len
  have hmu := mu_upd (nr := nr) (u := u) (u' := u1.fin j a) (T := T) (T' := ops.map .bg) ht (by rw [hT]; simp only [wT, hx]; omega)
  have hnb := nb_upd (u := u) (u' := u1.fin j a) (T := T) (T' := ops.map .bg) ht
  have hnn : nB (ops.map .bg) = nB (T t) := by rw [hT, hxb]
  have hlog : (u1.fin j a).log = u.log.fin4 j c a := by
    unfold CU.fin
    simp only [h1l]
    exact fin_get hp.at_
  have hl : (u1.fin j a).l = u1.l := rfl
  have hrg : (u1.fin j a).rg = u.rg := h1r
  have hjl := (List.getElem?_eq_some_iff.1 hp.at_).1
  have hget : ∀ (k : Nat) (d : Cl), (u.log.fin4 j c a).l[k]? = some d ↔ (k ≠ j ∧ u.log.l[k]? = some d) ∨ (k = j ∧ d = { c with an := a, to := u.log.now + 1 }) := fun k d => by
    simp only [LS.fin4]
    by_cases e : k = j
    · subst e
      rw [List.getElem?_set_self hjl]
      simp only [Option.some.injEq]
      exact ⟨fun h => .inr ⟨trivial, h.symm⟩, fun h => h.elim (fun h => absurd rfl h.1) fun h => h.2.symm⟩
    · rw [List.getElem?_set_ne (Ne.symm e)]
      exact ⟨fun h => .inl ⟨e, h⟩, fun h => h.elim (fun h => h.2) fun h => absurd h.1 e⟩
  have hnow : (u.log.fin4 j c a).now = u.log.now + 1 := rfl
  have hlen : (u.log.fin4 j c a).l.length = u.log.l.length := by simp [LS.fin4]
  generalize hu' : u1.fin j a = u' at hl hlog hrg hmu hnb ⊢
  refine ⟨by rw [hlog]; exact hg.wl.fin4 a hp.at_ hp.to, ?_, fun t' ht' => ?_, fun k d hd => ?_, fun k hk => ?_, by rw [hrg]; exact hg.rp, hg.nd, fun e he => ?_, fun k d hd h0 => ?_, ?_, ?_, ?_, fun k => ?_, by rw [hrg]; exact hg.rl⟩
  · have := hg.ln
    simp only at this
    rw [hlog, hlen, hnow]; omega
  · by_cases e : t' = t
    · subst e
      simp only [updL_eq]
      refine .idle ops hop fun k d hd hdt => ?_
      rw [hlog] at hd
      rcases (hget k d).1 hd with ⟨h1, h2⟩ | ⟨h1, h2⟩
      · exact fun h0 => h1 (hp.one k d h2 hdt h0)
      · rw [h2]
        simp only
        omega
    · simp only [updL_ne e]
      refine (hg.ph t' ht').other (fun k d hd => ?_) (fun k hk => ?_) (fun e he => he) fun e he => .inl he
      · rw [hlog, hget]
        refine ⟨fun h => h.elim (fun h => h.2) fun h => ?_, fun h => .inl ⟨fun e => ?_, h⟩⟩
        · rw [h.2] at hd
          simp only [hp.th] at hd
          omega
        · subst e
          simp only [hp.at_, Option.some.injEq] at h
          subst h
          have := hp.th
          omega
      · rw [hl]
        rcases hlk k with h | h
        · rw [h]; exact hk
        · simp only at hk; omega
  · rw [hlog] at hd
    rcases (hget k d).1 hd with ⟨h1, h2⟩ | ⟨h1, h2⟩
    · exact hg.th k d h2
    · rw [h2]
      exact hg.th j c hp.at_
  · simp only at hk ⊢
    rw [hl] at hk ⊢
    rcases hlk k with h | h
    · have h5 := hno k
      rw [h] at hk h5 ⊢
      obtain ⟨t', h1, h2, h3⟩ := hg.lk k hk
      refine ⟨t', h1, h2, ?_⟩
      have : t' ≠ t := fun e => by
        subst e
        exact h5 h2
      rw [updL_ne this]; exact h3
    · exact absurd h.2 hk
  · rw [hlog]
    obtain ⟨d, h1, h2, h3⟩ := hg.mem e he
    by_cases ej : e.1 = j
    · have := ord_uniq hg.nd he ha ej
      subst this
      exact ⟨_, (hget _ _).2 (.inr ⟨rfl, rfl⟩), rfl, fun _ => rfl⟩
    · exact ⟨d, (hget _ _).2 (.inl ⟨ej, h1⟩), h2, h3⟩
  · rw [hlog] at hd
    rcases (hget k d).1 hd with ⟨h1, h2⟩ | ⟨h1, h2⟩
    · exact hg.cpl k d h2 h0
    · exact ⟨_, ha, h1.symm⟩
  · rw [hlog]
    refine hg.pw.imp fun {e e'} h c1 c2 hc1 hc2 => ?_
    have hfr : ∃ d, u.log.l[e.1]? = some d ∧ d.fr = c1.fr := by
      rcases (hget _ _).1 hc1 with ⟨h1, h2⟩ | ⟨h1, h2⟩
      · exact ⟨c1, h2, rfl⟩
      · rw [h1, h2]; exact ⟨c, hp.at_, rfl⟩
    obtain ⟨d, hd, hdf⟩ := hfr
    rcases (hget _ _).1 hc2 with ⟨h1, h2⟩ | ⟨h1, h2⟩
    · rw [← hdf]; exact h d c2 hd h2
    · rw [h2]
      refine .inr ?_
      have h9 := (hg.wl.one _ _ hd).2.1
      simp only at h9
      rw [← hdf]
      simp only
      omega
  · simp only at hnow0 ⊢; rw [hlog, hnow]; omega
  · simp only at hlen0 ⊢; rw [hlog, hlen]; omega
  · have := hg.g k
    simp only at this ⊢
    rw [hrg]; omega
end Go.Proofs.YtdbgeahmhfocaaaGreat

/- 'CorePolls': the run: all is finished, and there is an order. -/
namespace Go.Proofs.YtdbgeahmhfocaaaGreat
set_option pp.deepTerms false
set_option pp.deepTerms.threshold 8
set_option linter.unusedSimpArgs false
set_option linter.unusedVariables false
set_option maxRecDepth 100000
open Go Go.RowKit
variable {nr rn n N M : Nat} {X0 : XS} {u : CU} {T : Nat → List CA} {ord : List Ent} {t : Nat}
/-- Each step keeps what holds. -/
theorem gdc_step (hr8 : nr ≤ 8) (hg : GdC nr rn n N M X0 (u, T) ord) (ht : t < n) {a : CA} {r : List CA} (hT : T t = a :: r) :
    ((exC nr t u a).2.2 = true → (∃ ord', GdC nr rn n N M X0 ((exC nr t u a).1, updL T t ((exC nr t u a).2.1 ++ r)) ord') ∧ wT nr ((exC nr t u a).2.1 ++ r) + 1 = wT nr (T t)) ∧
    ((exC nr t u a).2.2 = false → GdC nr rn n N M X0 ((exC nr t u a).1, T) ord ∧ ∀ k, ((exC nr t u a).1.l k).1 = (u.l k).1) := by
  have hph := hg.ph t ht
  simp only at hph
  rw [hT] at hph
  generalize hL : a :: r = L at hph
  cases hph with
  | idle ops hop hid =>
    cases ops with
    | nil => cases hL
    | cons op ops =>
      rw [List.map_cons] at hL
      injection hL with h1 h2
      subst h1 h2
      obtain ⟨g1, g2⟩ := gd_bg hg ht hT hop hid
      exact ⟨fun _ => ⟨⟨ord, g1⟩, g2⟩, fun h => by cases h⟩
  | lk ops i j c hop hp hi hs hn =>
    injection hL with h1 h2
    subst h1 h2
    obtain ⟨g1, g2⟩ := gd_lk hr8 hg ht hT hop hp hi hs hn
    have e1 : (4 + (i : Int)).toNat = 4 + i := by omega
    have e0 : (exC nr t u (.lk (4 + (i : Int)))).2.2 = (decide (0 ≤ 4 + (i : Int) ∧ 4 + (i : Int) < (12 : Nat)) && tryB (u.l (4 + (i : Int)).toNat).1 ((t : Int) + 1)) := rfl
    have hok : (exC nr t u (.lk (4 + (i : Int)))).2.2 = decide ((u.l (4 + i)).1 = 0) := by
      rw [e0, e1]
      unfold tryB
      rw [if_neg (by omega), decide_eq_true (by omega), Bool.true_and]
    rw [hok]
    refine ⟨fun h => ⟨⟨ord, g1 (of_decide_eq_true h)⟩, ?_⟩, fun h => g2 (of_decide_eq_false h)⟩
    rw [hT]
    show wT nr ([] ++ _) + 1 = _
    simp only [List.nil_append, wT, wA]; omega
  | po ops i j c hop hp hi hs hn hlk =>
    injection hL with h1 h2
    subst h1 h2
    refine ⟨fun _ => ⟨⟨_, gd_po hg ht hT hop hp hi hs hn hlk⟩, ?_⟩, fun h => by cases h⟩
    rw [hT]
    show wT nr ([_] ++ _) + 1 = _
    simp only [List.cons_append, List.nil_append, wT, wA]; omega
  | fe ops i j c a' hop hp hi ha hlk =>
    injection hL with h1 h2
    subst h1 h2
    have hl := fun k => free_l (u := u) (uo := (t : Int) + 1) (i := i) (by omega) (by omega) k
    refine ⟨fun _ => ⟨⟨ord, gd_end (u1 := u.free ((t : Int) + 1) (4 + (i : Int))) hg ht free_log free_rg hT rfl (fun r => rfl) hop hp ha (fun k => ?_) fun k => ?_⟩, ?_⟩, fun h => by cases h⟩
    · rw [hl]
      by_cases e : k = 4 + i ∧ (u.l k).1 = (t : Int) + 1
      · rw [if_pos e]; exact .inr ⟨e.2, rfl⟩
      · rw [if_neg e]; exact .inl rfl
    · rw [hl]
      by_cases e : k = 4 + i ∧ (u.l k).1 = (t : Int) + 1
      · rw [if_pos e]; omega
      · rw [if_neg e]
        intro h
        have h0 : (u.l k).1 ≠ 0 := by omega
        obtain ⟨t', h1, h2, h3⟩ := hg.lk k h0
        have : t' = t := by
          simp only at h2
          omega
        subst this
        simp only [hT] at h3
        rcases h3 with ⟨_, _, _, _, h4, _⟩ | ⟨i', _, _, _, h4, h5⟩
        · cases h4
        · injection h4 with h4 _
          injection h4 with h4 _ _
          exact e ⟨by omega, h⟩
    · rw [hT]
      show wT nr ([] ++ _) + 1 = _
      simp only [List.nil_append, wT, wA]; omega
  | an ops j c hop hp hs hn =>
    injection hL with h1 h2
    subst h1 h2
    have hw : wT nr ((exC nr t u (.an j)).2.1 ++ ops.map .bg) + 1 = wT nr (T t) := by
      rw [hT]
      show wT nr ([] ++ _) + 1 = _
      simp only [List.nil_append, wT, wA]; omega
    have hfr : ∀ k, (u.l k).1 ≠ (t : Int) + 1 := fun k h => by
      have h0 : (u.l k).1 ≠ 0 := by omega
      obtain ⟨t', h1, h2, h3⟩ := hg.lk k h0
      have : t' = t := by
        simp only at h2
        omega
      subst this
      simp only [hT] at h3
      rcases h3 with ⟨_, _, _, _, h4, _⟩ | ⟨i', _, _, _, h4, h5⟩ <;> cases h4
    refine ⟨fun _ => ⟨?_, hw⟩, fun h => by cases h⟩
    rcases hn with hn | hn
    · exact ⟨_, gd_end (u1 := u) (gd_an hg hT hop hp hs hn) ht rfl rfl hT rfl (fun r => rfl) hop hp (by simp) (fun k => .inl rfl) hfr⟩
    · exact ⟨_, gd_end (u1 := u) hg ht rfl rfl hT rfl (fun r => rfl) hop hp hn (fun k => .inl rfl) hfr⟩
/-- Somebody can go on. -/
theorem gdc_prog (hr8 : nr ≤ 8) (hg : GdC nr rn n N M X0 (u, T) ord) (ht : t < n) (hT : T t ≠ []) : ∃ s a r, s < n ∧ T s = a :: r ∧ (exC nr s u a).2.2 = true := by
  have hph := hg.ph t ht
  simp only at hph
  generalize hL : T t = L at hph hT
  cases hph with
  | idle ops hop hid =>
    cases ops with
    | nil => exact absurd rfl hT
    | cons op ops => exact ⟨t, _, _, ht, hL, rfl⟩
  | lk ops i j c hop hp hi hs hn =>
    have e1 : (4 + (i : Int)).toNat = 4 + i := by omega
    by_cases h0 : (u.l (4 + i)).1 = 0
    · refine ⟨t, _, _, ht, hL, ?_⟩
      show (decide (0 ≤ 4 + (i : Int) ∧ 4 + (i : Int) < (12 : Nat)) && tryB (u.l (4 + (i : Int)).toNat).1 ((t : Int) + 1)) = true
      rw [e1, h0]
      unfold tryB
      rw [if_neg (by omega), decide_eq_true (by omega)]
      rfl
    · obtain ⟨t', h1, h2, h3⟩ := hg.lk _ h0
      rcases h3 with ⟨i', j', d', r', h4, _⟩ | ⟨i', j', a', r', h4, _⟩
      · exact ⟨t', _, _, h1, h4, rfl⟩
      · exact ⟨t', _, _, h1, h4, rfl⟩
  | po ops i j c hop hp hi hs hn hlk => exact ⟨t, _, _, ht, hL, rfl⟩
  | fe ops i j c a' hop hp hi ha hlk => exact ⟨t, _, _, ht, hL, rfl⟩
  | an ops j c hop hp hs hn => exact ⟨t, _, _, ht, hL, rfl⟩
/-- What a step asks for holds. -/
theorem gdc_pre (hN : N ≤ 1000000) (hM : M ≤ 100000) (hr8 : nr ≤ 8) (hg : GdC nr rn n N M X0 (u, T) ord) (ht : t < n) {a : CA} {r : List CA} (hT : T t = a :: r) : preC rn t u a := by
  have h1 := hg.now
  have h2 := hg.len
  simp only at h1 h2
  have hlo : LogOk u.log := ⟨by omega, by omega⟩
  have hph := hg.ph t ht
  simp only at hph
  rw [hT] at hph
  generalize hL : a :: r = L at hph
  cases hph with
  | idle ops hop hid =>
    cases ops with
    | nil => cases hL
    | cons op ops =>
      injection hL with h3 h4
      subst h3
      exact hlo
  | lk ops i j c hop hp hi hs hn =>
    injection hL with h3 h4
    subst h3
    trivial
  | po ops i j c hop hp hi hs hn hlk =>
    injection hL with h3 h4
    subst h3
    have h5 := hg.g i
    simp only at h5
    exact ⟨⟨hg.rl i hi, by omega⟩, hlo, c, hp.at_, hp.to⟩
  | fe ops i j c a' hop hp hi ha hlk =>
    injection hL with h3 h4
    subst h3
    exact ⟨hlo, c, hp.at_, hp.to⟩
  | an ops j c hop hp hs hn =>
    injection hL with h3 h4
    subst h3
    exact ⟨hlo, c, hp.at_, hp.to⟩
end Go.Proofs.YtdbgeahmhfocaaaGreat

/- 'CorePolls': what all comes to. -/
namespace Go.Proofs.YtdbgeahmhfocaaaGreat
set_option pp.deepTerms false
set_option pp.deepTerms.threshold 8
set_option linter.unusedSimpArgs false
set_option linter.unusedVariables false
set_option maxRecDepth 100000
open Go Go.RowKit
section
variable {B : World} {nr rn n N M : Nat} {X0 : XS} {H : CU → HF}
def GoodC (nr rn n N M : Nat) (X0 : XS) (x : CU × (Nat → List CA)) : Prop := nr ≤ 8 ∧ N ≤ 60000 ∧ M ≤ 60000 ∧ ∃ ord, GdC nr rn n N M X0 x ord
theorem trC (x : CU × (Nat → List CA)) (t : Nat) (a : CA) (r : List CA) (hT : x.2 t = a :: r) : lgTr (L := cL (B := B) nr rn H) x t = (((exC nr t x.1 a).1, if (exC nr t x.1 a).2.2 then updL x.2 t ((exC nr t x.1 a).2.1 ++ r) else x.2), (exC nr t x.1 a).2.2) := by
  unfold lgTr
  rw [hT]
theorem goodC_pre : ∀ (x : CU × (Nat → List CA)) t a r, GoodC nr rn n N M X0 x → t < n → x.2 t = a :: r → (cL (B := B) nr rn H).pre t x.1 a := by
  rintro ⟨u, T⟩ t a r ⟨h8, hN, hM, ord, hg⟩ ht hT
  exact gdc_pre (by omega) (by omega) h8 hg ht hT
theorem goodC_step : ∀ (x : CU × (Nat → List CA)) t, GoodC nr rn n N M X0 x → t < n → x.2 t ≠ [] → GoodC nr rn n N M X0 (lgTr (L := cL (B := B) nr rn H) x t).1 := by
  rintro ⟨u, T⟩ t ⟨h8, hN, hM, ord, hg⟩ ht hx
  obtain ⟨a, r, hT⟩ : ∃ a r, T t = a :: r := by
    cases h : T t with
    | nil => exact absurd h hx
    | cons a r => exact ⟨a, r, rfl⟩
  obtain ⟨h1, h2⟩ := gdc_step h8 hg ht hT
  rw [trC (u, T) t a r hT]
  refine ⟨h8, hN, hM, ?_⟩
  cases hok : (exC nr t u a).2.2 with
  | true =>
    simp only [hok, if_true]
    exact (h1 hok).1
  | false =>
    simp only [hok, Bool.false_eq_true, if_false]
    exact ⟨ord, (h2 hok).1⟩
abbrev polS (B : World) (nr rn n N M : Nat) (X0 : XS) (H : CU → HF) : Sys B := lgSys (cL (B := B) nr rn H) n (GoodC nr rn n N M X0) goodC_pre goodC_step
theorem exC_ok {u u' : CU} (h : ∀ i, (u'.l i).1 = (u.l i).1) (j : Nat) (a : CA) : (exC nr j u' a).2.2 = (exC nr j u a).2.2 := by
  cases a with
  | lk i => show (decide _ && tryB (u'.l i.toNat).1 _) = (decide _ && tryB (u.l i.toNat).1 _); rw [h]
  | _ => rfl
theorem pol_prg : Prg (polS B nr rn n N M X0 H) (GoodC nr rn n N M X0) (muC nr n) := by
  have live : ∀ {x : CU × (Nat → List CA)} {t : Nat}, (polS B nr rn n N M X0 H).live x t = true → ∃ a r, x.2 t = a :: r := fun {x t} hl => by
    have hl : (!(x.2 t).isEmpty) = true := hl
    cases h : x.2 t with
    | nil => rw [h] at hl; cases hl
    | cons a r => exact ⟨a, r, rfl⟩
  refine ⟨fun {x t} hg ht hl => ?_, fun {x t} hg ht hl hok => ?_, fun {x t} hg ht hl hno => ?_, fun {x} hg hl => ?_, fun {x} hg hl => ?_⟩
  · obtain ⟨a, r, hT⟩ := live hl
    exact goodC_step x t hg ht (by rw [hT]; simp)
  · obtain ⟨a, r, hT⟩ := live hl
    obtain ⟨u, T⟩ := x
    obtain ⟨h8, hN, hM, ord, hg⟩ := hg
    obtain ⟨h1, h2⟩ := gdc_step h8 hg ht hT
    have hok : (lgTr (L := cL (B := B) nr rn H) (u, T) t).2 = true := hok
    show muC nr n (lgTr (L := cL (B := B) nr rn H) (u, T) t).1 + 1 = _
    rw [trC (u, T) t a r hT] at hok ⊢
    have hok : (exC nr t u a).2.2 = true := hok
    simp only [hok, if_true]
    exact mu_upd ht (h1 hok).2
  · obtain ⟨a, r, hT⟩ := live hl
    obtain ⟨u, T⟩ := x
    obtain ⟨h8, hN, hM, ord, hg⟩ := hg
    obtain ⟨h1, h2⟩ := gdc_step h8 hg ht hT
    have hno : (lgTr (L := cL (B := B) nr rn H) (u, T) t).2 = false := hno
    show muC nr n (lgTr (L := cL (B := B) nr rn H) (u, T) t).1 = muC nr n (u, T) ∧ ∀ j, j < n → (polS B nr rn n N M X0 H).live (lgTr (L := cL (B := B) nr rn H) (u, T) t).1 j = _ ∧ (_ → (lgTr (L := cL (B := B) nr rn H) (lgTr (L := cL (B := B) nr rn H) (u, T) t).1 j).2 = (lgTr (L := cL (B := B) nr rn H) (u, T) j).2)
    rw [trC (u, T) t a r hT] at hno ⊢
    have hno : (exC nr t u a).2.2 = false := hno
    have h3 := (h2 hno).2
    simp only [hno, Bool.false_eq_true, if_false]
    refine ⟨rfl, fun j hj => ⟨rfl, fun hlj => ?_⟩⟩
    obtain ⟨a', r', hT'⟩ := live hlj
    rw [trC (u, T) j a' r' hT', trC ((exC nr t u a).1, T) j a' r' hT']
    exact exC_ok h3 j a'
  · obtain ⟨t, ht, hl⟩ := left_of hl
    obtain ⟨a, r, hT⟩ := live hl
    obtain ⟨u, T⟩ := x
    obtain ⟨h8, hN, hM, ord, hg⟩ := hg
    obtain ⟨s, a', r', hs, hT', hok⟩ := gdc_prog h8 hg ht (by
      have hT : T t = a :: r := hT
      rw [hT]; simp)
    refine ⟨s, hs, ?_, ?_⟩
    · show (!(T s).isEmpty) = true
      rw [hT']; rfl
    · show (lgTr (L := cL (B := B) nr rn H) (u, T) s).2 = true
      rw [trC (u, T) s a' r' hT']; exact hok
  · refine sumN_zero fun t ht => ?_
    have := left_none hl (t := t) ht
    have this : (!(x.2 t).isEmpty) = false := this
    cases hT : x.2 t with
    | nil => rfl
    | cons a r => rw [hT] at this; cases this
/-! ### An order that is left is explained -/
theorem cmp_of {l : List Cl} : ∀ (r p : List Ent) (D : List Bool) (X Y : XS), D.length = l.length → (∀ k, k < l.length → (dnB D k = true ↔ ∃ e ∈ p, e.1 = k)) → (∀ k, k < l.length → ∃ e ∈ p ++ r, e.1 = k) → ((p ++ r).map (·.1)).Nodup →
    (∀ e ∈ r, ∃ c, l[e.1]? = some c ∧ c.op = e.2.1 ∧ c.an = e.2.2) → (r.Pairwise fun e e' => ∀ c c', l[e.1]? = some c → l[e'.1]? = some c' → c.fr ≤ c'.to) → Rp nr X r Y → Cmp l nr D X
  | [], p, D, X, Y, hD, hd, hall, hnd, hm, hp, hr => by
    refine .done ?_
    unfold outs
    rw [List.map_eq_nil_iff, List.filter_eq_nil_iff]
    intro k hk
    have hk := List.mem_range.1 hk
    obtain ⟨e, he, hek⟩ := hall k hk
    rw [List.append_nil] at he
    have := (hd k hk).2 ⟨e, he, hek⟩
    unfold frB
    rw [List.getElem?_eq_getElem hk, this]
    simp
  | e :: r, p, D, X, Y, hD, hd, hall, hnd, hm, hp, hr => by
    obtain ⟨c, hc, ho, ha⟩ := hm e (by simp)
    have hel := (List.getElem?_eq_some_iff.1 hc).1
    have hnot : ∀ e' ∈ p, e'.1 ≠ e.1 := fun e' he' h => by
      rw [List.map_append, List.nodup_append] at hnd
      exact hnd.2.2 e'.1 (List.mem_map_of_mem (f := (·.1)) he') e.1 (by simp) h
    have hund : dnB D e.1 = false := by
      cases h : dnB D e.1 with
      | false => rfl
      | true =>
        obtain ⟨e', he', h'⟩ := (hd e.1 hel).1 h
        exact absurd h' (hnot e' he')
    rw [List.pairwise_cons] at hp
    refine .step (i := e.1) (c := c) ?_ hc (by rw [ho, ha]; exact hr.1) ?_
    · unfold frB
      rw [hc, hund]
      simp only [Bool.not_false, Bool.true_and]
      unfold okM
      rw [List.all_eq_true]
      intro k hk
      have hk := List.mem_range.1 hk
      unfold okT
      rw [List.getElem?_eq_getElem hk]
      simp only [Bool.or_eq_true, decide_eq_true_eq, Bool.not_eq_true', decide_eq_false_iff_not]
      obtain ⟨e', he', hek⟩ := hall k hk
      rcases List.mem_append.1 he' with h | h
      · exact .inl (.inr ((hd k hk).2 ⟨e', h, hek⟩))
      · rcases List.mem_cons.1 h with h | h
        · exact .inl (.inl (by rw [← hek, h]))
        · have := hp.1 e' h c (l[k]) hc (by rw [hek]; exact List.getElem?_eq_getElem hk)
          exact .inr (by omega)
    · rw [ho]
      refine cmp_of r (p ++ [e]) (D.set e.1 true) _ Y (by simpa using hD) (fun k hk => ?_) (fun k hk => ?_) ?_ (fun e' he' => hm e' (by simp [he'])) hp.2 hr.2
      · unfold dnB
        rw [List.getD_eq_getElem?_getD]
        by_cases h : k = e.1
        · subst h
          rw [List.getElem?_set_self (by omega)]
          exact ⟨fun _ => ⟨e, by simp, rfl⟩, fun _ => rfl⟩
        · rw [List.getElem?_set_ne (Ne.symm h)]
          have := hd k hk
          unfold dnB at this
          rw [List.getD_eq_getElem?_getD] at this
          rw [this]
          refine ⟨fun ⟨e', h1, h2⟩ => ⟨e', by simp [h1], h2⟩, fun ⟨e', h1, h2⟩ => ?_⟩
          rcases List.mem_append.1 h1 with h3 | h3
          · exact ⟨e', h3, h2⟩
          · rw [List.mem_singleton.1 h3] at h2
            exact absurd h2.symm h
      · rw [List.append_assoc]; exact hall k hk
      · rw [List.append_assoc]; exact hnd
/-- **What all comes to.** -/
theorem pol_run {u : CU} {ops : Nat → List COp} {picks : List Int} {R : _} (hr8 : nr ≤ 8) (hlog : u.log = ⟨[], 0⟩) (hu : ∀ i, (u.l i).1 = 0) (hop : ∀ t, t < n → ∀ op ∈ ops t, op.kind = 4 ∨ op.kind = 5) (hM : sumN (fun t => (ops t).length) n ≤ 10)
    (hG : ∀ i, (u.rg i).G = 0) (hrl : ∀ i, i < nr → (u.rg i).L.length ≤ rn) {T : Nat → List CA} (hT : ∀ t, t < n → T t = (ops t).map .bg)
    (hR : Sys.loopA (Y := polS B nr rn n 40 10 (xsOf nr u.rg) H) 70000 (Sys.picksA ⟨(u, T), [], 0⟩ picks) = R) :
    GoodC nr rn n 40 10 (xsOf nr u.rg) (u, T) ∧ R.2 = 0 ∧ (∀ i, (R.1.x.1.l i).1 = 0) ∧ Rt R.1.x.1.log.l ∧ (∀ (j : Nat) (c : Cl), R.1.x.1.log.l[j]? = some c → c.to ≠ 0) ∧ R.1.x.1.log.l.length ≤ 10 ∧ (∀ c ∈ R.1.x.1.log.l, c.op.kind = 4 ∨ c.op.kind = 5) ∧
      Cmp R.1.x.1.log.l nr (List.replicate R.1.x.1.log.l.length false) (xsOf nr u.rg) := by
  have hw : ∀ l : List COp, wT nr (l.map .bg) ≤ 4 * l.length := fun l => by
    induction l with
    | nil => simp [wT]
    | cons a l ih =>
      simp only [List.map_cons, wT, wA, List.length_cons]
      split <;> omega
  have hb : ∀ l : List COp, nB (l.map .bg) = l.length := fun l => by
    induction l with
    | nil => rfl
    | cons a l ih => simp only [List.map_cons, nB, ih, List.length_cons]; omega
  have hmu : muC nr n (u, T) ≤ 40 := by
    have h1 : muC nr n (u, T) ≤ sumN (fun t => 4 * (ops t).length) n := sumN_mono fun t ht => by
      show wT nr (T t) ≤ _
      rw [hT t ht]; exact hw _
    rw [sumN_mul] at h1
    omega
  have hnb : nbC n (u, T) ≤ 10 := by
    have h1 : nbC n (u, T) = sumN (fun t => (ops t).length) n := sumN_congr fun t ht => by
      show nB (T t) = _
      rw [hT t ht]; exact hb _
    omega
  have h0 : GoodC nr rn n 40 10 (xsOf nr u.rg) (u, T) := by
    refine ⟨hr8, by omega, by omega, [], ?_, ?_, fun t ht => ?_, fun j c hc => ?_, fun k hk => absurd (hu k) hk, rfl, by simp, fun e he => by simp at he, fun j c hc => ?_, by simp, ?_, ?_, fun i => ?_, hrl⟩
    · show Wl u.log
      rw [hlog]; exact Wl.nil
    · show u.log.l.length ≤ u.log.now
      rw [hlog]; exact Nat.le_refl _
    · show PhC nr u [] t (T t)
      rw [hT t ht]
      refine .idle _ (hop t ht) fun j c hc => ?_
      rw [hlog] at hc; simp at hc
    · have hc : u.log.l[j]? = some c := hc
      rw [hlog] at hc; simp at hc
    · have hc : u.log.l[j]? = some c := hc
      rw [hlog] at hc; simp at hc
    · show u.log.now + _ ≤ 40
      rw [hlog]; simp only; omega
    · show u.log.l.length + _ ≤ 10
      rw [hlog]; simp only [List.length_nil]; omega
    · show (u.rg i).G + _ ≤ 40
      rw [hG]; omega
  refine ⟨h0, ?_⟩
  obtain ⟨h1, h2, h3, h4⟩ := run_ends (pol_prg (B := B) (H := H) (nr := nr) (rn := rn) (n := n) (N := 40) (M := 10) (X0 := xsOf nr u.rg)) (x0 := (u, T)) (by omega) h0 picks
  rw [hR] at h1 h2 h3 h4
  obtain ⟨_, _, _, ord, hg⟩ := h3
  have hem : ∀ t, t < n → R.1.x.2 t = [] := fun t ht' => by
    have := left_none h2 (t := t) ht'
    have this : (!(R.1.x.2 t).isEmpty) = false := this
    cases hT : R.1.x.2 t with
    | nil => rfl
    | cons a r => rw [hT] at this; cases this
  have hid : ∀ t, t < n → ∀ (j : Nat) (c : Cl), R.1.x.1.log.l[j]? = some c → c.th = (t : Nat) → c.to ≠ 0 := fun t ht => by
    have hp := hg.ph t ht
    rw [hem t ht] at hp
    generalize hL : ([] : List CA) = L at hp
    cases hp with
    | idle ops hop hid => exact hid
    | _ => cases hL
  have hto : ∀ (j : Nat) (c : Cl), R.1.x.1.log.l[j]? = some c → c.to ≠ 0 := fun j c hc => by
    obtain ⟨⟨t, ht, h⟩, _⟩ := hg.th j c hc
    exact hid t ht j c hc h
  have hlen := hg.len
  refine ⟨h1, fun i => ?_, hg.wl.right hto, hto, by omega, fun c hc => ?_, ?_⟩
  · by_cases h : (R.1.x.1.l i).1 = 0
    · exact h
    · obtain ⟨t, ht, _, h5⟩ := hg.lk i h
      rw [hem t ht] at h5
      rcases h5 with ⟨_, _, _, _, h, _⟩ | ⟨_, _, _, _, h, _⟩ <;> cases h
  · obtain ⟨j, hj⟩ := List.getElem?_of_mem hc
    exact (hg.th j c hj).2
  · refine cmp_of ord [] _ _ (xsOf nr R.1.x.1.rg) (by simp) (fun k hk => ?_) (fun k hk => ?_) hg.nd (fun e he => ?_) ?_ hg.rp
    · unfold dnB
      rw [List.getD_eq_getElem?_getD, List.getElem?_replicate, if_pos hk]
      simp
    · have hk' := List.getElem?_eq_getElem hk
      exact hg.cpl k _ hk' (hto k _ hk')
    · obtain ⟨c, h1, h2, h3⟩ := hg.mem e he
      exact ⟨c, h1, h2, h3 (hto _ _ h1)⟩
    · exact hg.pw.imp fun {e e'} h c c' hc hc' => (h c c' hc hc').resolve_left (hto _ _ hc')
end
end Go.Proofs.YtdbgeahmhfocaaaGreat

/- Keys tell states apart: plain laws. -/
namespace Go.Proofs.YtdbgeahmhfocaaaGreat
set_option pp.deepTerms false
set_option pp.deepTerms.threshold 8
set_option linter.unusedSimpArgs false
set_option linter.unusedVariables false
set_option maxRecDepth 100000
open Go Go.RowKit
def bl (b : ByteArray) : List UInt8 := b.data.toList
theorem bl_app (a b : ByteArray) : bl (a ++ b) = bl a ++ bl b := by
  unfold bl
  rw [ByteArray.data_append, Array.toList_append]
theorem bl_inj {a b : ByteArray} (h : bl a = bl b) : a = b := by
  unfold bl at h
  have := Array.toList_inj.1 h
  cases a; cases b
  simp only at this
  rw [this]
theorem bl_len (a : ByteArray) : (bl a).length = a.size := rfl
def isD (c : UInt8) : Bool := decide (48 ≤ c.toNat) && decide (c.toNat ≤ 57)
theorem dig_bl {n : Nat} (h : n < 10) : bl (dig n) = [(48 + n).toUInt8] := rfl
theorem dig_nat {n : Nat} (h : n < 10) : ((48 + n).toUInt8).toNat = 48 + n := by
  simp [Nat.toUInt8]
  omega
theorem num_dig : ∀ (n : Nat), ∀ c ∈ bl (numS n), isD c = true := by
  intro n
  induction n using Nat.strongRecOn with
  | _ n ih =>
    intro c hc
    by_cases h : n < 10
    · rw [numS_lo h, dig_bl h, List.mem_singleton] at hc
      rw [hc]
      unfold isD
      rw [dig_nat h]
      simp; omega
    · rw [numS_hi h, bl_app, dig_bl (by omega)] at hc
      rcases List.mem_append.1 hc with h1 | h1
      · exact ih (n / 10) (by omega) c h1
      · rw [List.mem_singleton.1 h1]
        unfold isD
        rw [dig_nat (by omega)]
        simp; omega
def valD (l : List UInt8) : Nat := l.foldl (fun a c => 10 * a + (c.toNat - 48)) 0
theorem num_val : ∀ (n : Nat), valD (bl (numS n)) = n := by
  intro n
  induction n using Nat.strongRecOn with
  | _ n ih =>
    by_cases h : n < 10
    · rw [numS_lo h, dig_bl h]
      simp only [valD, List.foldl_cons, List.foldl_nil]
      rw [dig_nat h]; omega
    · rw [numS_hi h, bl_app, dig_bl (by omega)]
      have := ih (n / 10) (by omega)
      unfold valD at this ⊢
      rw [List.foldl_append, this]
      simp only [List.foldl_cons, List.foldl_nil]
      rw [dig_nat (by omega)]; omega
theorem num_eq {x y : Nat} (h : bl (numS x) = bl (numS y)) : x = y := by
  rw [← num_val x, ← num_val y, h]
theorem num_head (n : Nat) : ∃ c r, bl (numS n) = c :: r ∧ isD c = true := by
  cases h : bl (numS n) with
  | nil =>
    have h1 : bl (numS n) ≠ [] := by
      by_cases h : n < 10
      · rw [numS_lo h, dig_bl h]; simp
      · rw [numS_hi h, bl_app, dig_bl (by omega)]; simp
    exact absurd h h1
  | cons c r => exact ⟨c, r, rfl, num_dig n c (by rw [h]; simp)⟩
theorem run_inj : ∀ {l l' : List UInt8} {c c' : UInt8} {r r' : List UInt8}, (∀ x ∈ l, isD x = true) → (∀ x ∈ l', isD x = true) → isD c = false → isD c' = false → l ++ c :: r = l' ++ c' :: r' → l = l' ∧ c = c' ∧ r = r'
  | [], [], c, c', r, r', _, _, _, _, h => by
    simp only [List.nil_append, List.cons.injEq] at h
    exact ⟨rfl, h⟩
  | [], y :: l', c, c', r, r', _, h2, h3, _, h => by
    simp only [List.nil_append, List.cons_append, List.cons.injEq] at h
    rw [h.1, h2 y (by simp)] at h3; cases h3
  | x :: l, [], c, c', r, r', h1, _, _, h4, h => by
    simp only [List.nil_append, List.cons_append, List.cons.injEq] at h
    rw [← h.1, h1 x (by simp)] at h4; cases h4
  | x :: l, y :: l', c, c', r, r', h1, h2, h3, h4, h => by
    simp only [List.cons_append, List.cons.injEq] at h
    obtain ⟨e1, e2⟩ := run_inj (fun z hz => h1 z (by simp [hz])) (fun z hz => h2 z (by simp [hz])) h3 h4 h.2
    rw [h.1, e1]; exact ⟨rfl, e2⟩
theorem num_inj {x y : Nat} {c c' : UInt8} {r r' : List UInt8} (h3 : isD c = false) (h4 : isD c' = false) (h : bl (numS x) ++ c :: r = bl (numS y) ++ c' :: r') : x = y ∧ c = c' ∧ r = r' := by
  obtain ⟨e1, e2⟩ := run_inj (num_dig x) (num_dig y) h3 h4 h
  exact ⟨num_eq e1, e2⟩
theorem text_bl (s : ByteArray) : bl (textS s) = bl (numS s.size) ++ 58 :: bl s := by
  unfold textS
  rw [bl_app, bl_app]
  simp [bl]
theorem text_inj {s s' : ByteArray} {r r' : List UInt8} (h : bl (textS s) ++ r = bl (textS s') ++ r') : s = s' ∧ r = r' := by
  rw [text_bl, text_bl, List.append_assoc, List.append_assoc, List.cons_append, List.cons_append] at h
  obtain ⟨e1, _, e2⟩ := num_inj (by rfl) (by rfl) h
  obtain ⟨e3, e4⟩ := List.append_inj e2 (by rw [bl_len, bl_len, e1])
  exact ⟨bl_inj e3, e4⟩
theorem text_head (s : ByteArray) : ∃ c r, bl (textS s) = c :: r ∧ isD c = true := by
  obtain ⟨c, r, h1, h2⟩ := num_head s.size
  rw [text_bl, h1]
  exact ⟨c, _, rfl, h2⟩
/-! ### Messages -/
def mT (m : Mg) : List UInt8 := bl (textS m.topic) ++ (bl (textS m.pay) ++ if m.kept then [107] else [])
theorem mF_bl (a : ByteArray) (m : Mg) : bl (mF a m) = bl a ++ mT m := by
  unfold mF mT
  cases m.kept
  · simp [bl_app]
  · simp [bl_app]; rfl
theorem mFs_bl : ∀ (q : List Mg) (a : ByteArray), bl (q.foldl mF a) = bl a ++ q.flatMap mT
  | [], a => by simp
  | m :: q, a => by
    rw [List.foldl_cons, mFs_bl q, mF_bl, List.flatMap_cons, List.append_assoc]
theorem msgs_head : ∀ (q : List Mg) (r : List UInt8), ∃ c s, q.flatMap mT ++ 41 :: r = c :: s ∧ c ≠ 107
  | [], r => ⟨41, r, rfl, by decide⟩
  | m :: q, r => by
    obtain ⟨c, s, h1, h2⟩ := text_head m.topic
    refine ⟨c, s ++ ((bl (textS m.pay) ++ if m.kept then [107] else []) ++ (q.flatMap mT ++ 41 :: r)), ?_, fun e => ?_⟩
    · rw [List.flatMap_cons]
      show (mT m ++ _) ++ _ = _
      unfold mT
      rw [h1]
      simp
    · subst e
      revert h2; decide
theorem cat_inj : ∀ (q q' : List Mg) (r r' : List UInt8), q.length = q'.length → q.flatMap mT ++ 41 :: r = q'.flatMap mT ++ 41 :: r' → q = q' ∧ r = r'
  | [], [], r, r', _, h => by
    simp only [List.flatMap_nil, List.nil_append, List.cons.injEq, true_and] at h
    exact ⟨rfl, h⟩
  | [], _ :: _, _, _, h, _ => by simp at h
  | _ :: _, [], _, _, h, _ => by simp at h
  | m :: q, m' :: q', r, r', hl, h => by
    simp only [List.length_cons] at hl
    have hl : q.length = q'.length := by omega
    rw [List.flatMap_cons, List.flatMap_cons, List.append_assoc, List.append_assoc] at h
    have em : ∀ (m : Mg) (z : List UInt8), mT m ++ z = bl (textS m.topic) ++ (bl (textS m.pay) ++ ((if m.kept then [107] else []) ++ z)) := fun m z => by unfold mT; simp only [List.append_assoc]
    rw [em, em] at h
    obtain ⟨e1, h⟩ := text_inj h
    obtain ⟨e2, h⟩ := text_inj h
    obtain ⟨t, p, k⟩ := m
    obtain ⟨t', p', k'⟩ := m'
    simp only at e1 e2 h
    subst e1 e2
    obtain ⟨c, s, hh, hc⟩ := msgs_head q r
    obtain ⟨c', s', hh', hc'⟩ := msgs_head q' r'
    cases k <;> cases k' <;> simp only [Bool.false_eq_true, if_false, if_true, List.nil_append, List.cons_append] at h
    · obtain ⟨h1, h2⟩ := cat_inj q q' r r' hl h
      exact ⟨by rw [h1], h2⟩
    · have : (107 : UInt8) :: (q'.flatMap mT ++ 41 :: r') = c :: s := by rw [← hh]; exact h.symm
      injection this with h1 _
      exact absurd h1.symm hc
    · have : (107 : UInt8) :: (q.flatMap mT ++ 41 :: r) = c' :: s' := by rw [← hh']; exact h
      injection this with h1 _
      exact absurd h1.symm hc'
    · injection h with _ h
      obtain ⟨h1, h2⟩ := cat_inj q q' r r' hl h
      exact ⟨by rw [h1], h2⟩
theorem msgs_bl (q : List Mg) : bl (msgsS q) = bl (numS q.length) ++ 40 :: (q.flatMap mT ++ [41]) := by
  unfold msgsS
  rw [bl_app, mFs_bl, bl_app]
  simp [bl]
theorem msgs_inj {q q' : List Mg} {r r' : List UInt8} (h : bl (msgsS q) ++ r = bl (msgsS q') ++ r') : q = q' ∧ r = r' := by
  rw [msgs_bl, msgs_bl, List.append_assoc, List.append_assoc, List.cons_append, List.cons_append] at h
  obtain ⟨e1, _, e2⟩ := num_inj (by rfl) (by rfl) h
  rw [List.append_assoc, List.append_assoc] at e2
  exact cat_inj q q' _ _ e1 e2
/-! ### States -/
def kS : List (List Mg) → List Int → List UInt8
  | q :: qs, x :: xs => 48 :: 91 :: 93 :: (bl (msgsS q) ++ (bl (numS x.toNat) ++ kS qs xs))
  | _, _ => []
theorem num0 : bl (numS 0) = [48] := by rw [numS_lo (by omega)]; rfl
theorem ksF_bl : ∀ (qs : List (List Mg)) (xs : List Int) (a : ByteArray), bl (ksF a qs xs) = bl a ++ kS qs xs
  | [], xs, a => by simp [ksF, kS]
  | q :: qs, [], a => by simp [ksF, kS]
  | q :: qs, x :: xs, a => by
    simp only [ksF, kS]
    rw [ksF_bl qs xs]
    unfold k1F
    simp only [bl_app, num0]
    simp [bl]
theorem ks_head : ∀ (qs : List (List Mg)) (xs : List Int), ∃ c s, kS qs xs ++ [48, 40, 41] = 48 :: c :: s ∧ isD c = false
  | q :: qs, x :: xs => ⟨91, _, rfl, rfl⟩
  | [], _ => ⟨40, _, rfl, rfl⟩
  | _ :: _, [] => ⟨40, _, rfl, rfl⟩
theorem ks_inj : ∀ (qs qs' : List (List Mg)) (xs xs' : List Int), qs.length = xs.length → qs'.length = xs'.length → qs.length = qs'.length → (∀ x ∈ xs, 0 ≤ x) → (∀ x ∈ xs', 0 ≤ x) → kS qs xs ++ [48, 40, 41] = kS qs' xs' ++ [48, 40, 41] → qs = qs' ∧ xs = xs'
  | [], [], [], [], _, _, _, _, _, _ => ⟨rfl, rfl⟩
  | [], [], _ :: _, _, h, _, _, _, _, _ => by simp at h
  | [], [], [], _ :: _, _, h, _, _, _, _ => by simp at h
  | [], _ :: _, _, _, _, _, h, _, _, _ => by simp at h
  | _ :: _, [], _, _, _, _, h, _, _, _ => by simp at h
  | _ :: _, _ :: _, [], _, h, _, _, _, _, _ => by simp at h
  | _ :: _, _ :: _, _ :: _, [], _, h, _, _, _, _ => by simp at h
  | q :: qs, q' :: qs', x :: xs, x' :: xs', h1, h2, h3, p1, p2, h => by
    simp only [kS, List.cons_append, List.cons.injEq, true_and, List.append_assoc] at h
    obtain ⟨e1, h⟩ := msgs_inj h
    obtain ⟨c, s, hh, hc⟩ := ks_head qs xs
    obtain ⟨c', s', hh', hc'⟩ := ks_head qs' xs'
    rw [hh, hh'] at h
    have h' : (bl (numS x.toNat) ++ [48]) ++ c :: s = (bl (numS x'.toNat) ++ [48]) ++ c' :: s' := by simpa using h
    obtain ⟨e2, e3, e4⟩ := run_inj (fun z hz => by
      rcases List.mem_append.1 hz with hz | hz
      · exact num_dig _ z hz
      · rw [List.mem_singleton.1 hz]; rfl) (fun z hz => by
      rcases List.mem_append.1 hz with hz | hz
      · exact num_dig _ z hz
      · rw [List.mem_singleton.1 hz]; rfl) hc hc' h'
    have e5 := num_eq (List.append_cancel_right e2)
    have e6 := p1 x (by simp)
    have e7 := p2 x' (by simp)
    have e8 : x = x' := by omega
    obtain ⟨f1, f2⟩ := ks_inj qs qs' xs xs' (by simpa using h1) (by simpa using h2) (by simpa using h3) (fun z hz => p1 z (by simp [hz])) (fun z hz => p2 z (by simp [hz])) (by rw [hh, hh', e3, e4])
    rw [e1, e8, f1, f2]; exact ⟨rfl, rfl⟩
theorem key_inj {n rm : Nat} {X X' : XS} (h1 : X.q.length = n) (h2 : X.d.length = n) (h3 : X'.q.length = n) (h4 : X'.d.length = n) (p1 : ∀ x ∈ X.d, 0 ≤ x) (p2 : ∀ x ∈ X'.d, 0 ≤ x) (h : keyS rm X = keyS rm X') : X = X' := by
  have hm : bl (msgsS []) = [48, 40, 41] := by rw [msgs_bl]; simp [num0]
  have h' := congrArg bl h
  unfold keyS at h'
  rw [bl_app, bl_app, ksF_bl, ksF_bl, hm, List.append_assoc, List.append_assoc] at h'
  obtain ⟨e1, e2⟩ := ks_inj _ _ _ _ (by omega) (by omega) (by omega) p1 p2 (List.append_cancel_left h')
  cases X; cases X'
  simp only at e1 e2
  rw [e1, e2]
theorem dn_bl : ∀ (D : List Bool) (a : ByteArray), bl (D.foldl d1F a) = bl a ++ D.map fun b => if b then 49 else 48
  | [], a => by simp
  | b :: D, a => by
    rw [List.foldl_cons, dn_bl D]
    unfold d1F
    rw [bl_app]
    cases b <;> simp [bl]
theorem sk_inj {n rm : Nat} {D D' : List Bool} {X X' : XS} (hl : D.length = D'.length) (h1 : X.q.length = n) (h2 : X.d.length = n) (h3 : X'.q.length = n) (h4 : X'.d.length = n) (p1 : ∀ x ∈ X.d, 0 ≤ x) (p2 : ∀ x ∈ X'.d, 0 ≤ x) (h : skS D rm X = skS D' rm X') : D = D' ∧ X = X' := by
  have h' := congrArg bl h
  unfold skS dnS at h'
  rw [bl_app, bl_app, dn_bl, dn_bl] at h'
  simp only [show bl ⟨#[]⟩ = [] from rfl, List.nil_append] at h'
  obtain ⟨e1, e2⟩ := List.append_inj h' (by simp [hl])
  refine ⟨?_, key_inj h1 h2 h3 h4 p1 p2 (bl_inj e2)⟩
  refine List.map_inj_right (fun a b hab => ?_) |>.1 e1
  cases a <;> cases b <;> first | rfl | (revert hab; decide)
/-- What states may be reached. -/
structure RchC (n : Nat) (X : XS) : Prop where
  q : X.q.length = n
  d : X.d.length = n
  p : ∀ x ∈ X.d, 0 ≤ x
theorem rchC_step {n : Nat} {X : XS} {op : COp} (h : RchC n X) : RchC n (xDo n X op).1 := by
  unfold xDo
  split
  · split
    · exact h
    · split
      · exact h
      · exact ⟨by simp only [List.length_set]; exact h.q, h.d, h.p⟩
  · exact h
theorem fctx {l : List Cl} {n rm : Nat} (h8 : n ≤ 8) (h16 : rm ≤ 16) (h10 : l.length ≤ 10) (hk : ∀ c ∈ l, c.op.kind = 4 ∨ c.op.kind = 5) : FCtx l n rm (RchC n) :=
  ⟨h8, h16, h10, hk, fun X op h => rchC_step h, fun D D' X X' h1 h2 h3 h4 h => sk_inj (by omega) h3.q h3.d h4.q h4.d h3.p h4.p h⟩
end Go.Proofs.YtdbgeahmhfocaaaGreat
