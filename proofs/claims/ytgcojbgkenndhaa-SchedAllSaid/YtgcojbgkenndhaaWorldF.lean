/- The reference's 'Run': a walk. -/
import Derived.Test.YtgcojbgkenndhaaWorldP
namespace Go.Proofs.Ytgcojbgkenndhaa
set_option linter.unusedSimpArgs false
set_option linter.unusedVariables false
set_option maxRecDepth 100000
open Go Go.RowKit
section
variable {B : World} {σ τ : St} {K : Value → St → Prop}
def pxs (px : Nat → Nat) (n : Nat) : List Value := (List.range n).map fun t => .int .i64 (px t)
theorem pxs_len (px : Nat → Nat) (n : Nat) : (pxs px n).length = n := by simp [pxs]
theorem pxs_get {px : Nat → Nat} {n t : Nat} (ht : t < n) (sp : List Value) : (pxs px n ++ sp)[t]? = some (.int .i64 (px t)) := by
  rw [List.getElem?_append_left (by rw [pxs_len]; exact ht)]
  simp [pxs, List.getElem?_map, List.getElem?_range, ht]
theorem pxs_set {px : Nat → Nat} {n t : Nat} (ht : t < n) (sp : List Value) : (pxs px n ++ sp).set t (.int .i64 ((px t : Int) + 1)) = pxs (updAt px t) n ++ sp := by
  rw [List.set_append_left _ _ (by rw [pxs_len]; exact ht)]
  congr 1
  apply List.ext_getElem?
  intro u
  rw [List.getElem?_set]
  by_cases h : t = u
  · subst h
    simp [pxs, updAt, List.getElem?_map, List.getElem?_range, ht]
  · simp only [h, if_false]
    by_cases hu : u < n
    · simp [pxs, updAt, List.getElem?_map, List.getElem?_range, hu, Ne.symm h]
    · simp [pxs, List.getElem?_map, List.getElem?_range, hu]
theorem pxs_zero (n : Nat) : pxs (fun _ => 0) n = List.replicate n (.int .i64 0) := by
  apply List.ext_getElem?
  intro u
  by_cases hu : u < n
  · simp [pxs, List.getElem?_map, List.getElem?_range, List.getElem?_replicate, hu]
  · simp [pxs, List.getElem?_map, List.getElem?_range, List.getElem?_replicate, hu]
structure RfM (σ : St) (q : Nat) (th : List (List (Int × Int))) (w : WS) (px : Nat → Nat) (mv : List Int) (v9 v10 : Value) (s : St) : Prop where
  wq : s.m q = some (.comp (WoR w q))
  oa : Own s 3 1 (pxs px th.length) th.length v9
  om : Own s 3 1 (ints mv) mv.length v10
  nb : ∀ b, blk v10 = some b → σ.n ≤ b ∧ blk v9 ≠ some b
  na : ∀ b, blk v9 = some b → σ.n ≤ b
  old : ∀ c, c < σ.n → c ≠ q → s.m c = σ.m c
  n : σ.n ≤ s.n
theorem RfM.off {q : Nat} {th : List (List (Int × Int))} {w : WS} {px : Nat → Nat} {mv : List Int} {v9 v10 : Value} {s : St} (h : RfM σ q th w px mv v9 v10 s) {b : Nat} {o : Go.Obj} (ho : s.m b = some (.raw o)) : b ≠ q := fun e => by
  have := h.wq
  rw [← e, ho] at this
  cases this
theorem RfM.call {q k : Nat} {th : List (List (Int × Int))} {w : WS} {px : Nat → Nat} {mv : List Int} {v9 v10 : Value} {s : St} (h : RfM σ q th w px mv v9 v10 s) (w' : WS) (hk : s.n ≤ k) : RfM σ q th w' px mv v9 v10 ((s.set q (.comp (WoR w' q))).up k) := by
  refine ⟨by simp -implicitDefEqProofs (disch := first | omega | (simp only [St.set_n, St.up_n, List.length_cons, List.length_nil]; omega)) only [go_sem, Nat.reduceAdd, Nat.reduceMul, Nat.reduceSub, Int.reduceAdd, Int.reduceMul, Int.reduceSub, Int.reduceNeg, Int.reduceToNat], h.oa.keepR fun b o _ ho => ?_, h.om.keepR fun b o _ ho => ?_, h.nb, h.na, fun c hc hcq => ?_, by have := h.n; simp only [St.up_n]; omega⟩
  · have := h.off ho
    simp -implicitDefEqProofs (disch := first | omega | (simp only [St.set_n, St.up_n, List.length_cons, List.length_nil]; omega)) only [go_sem, Nat.reduceAdd, Nat.reduceMul, Nat.reduceSub, Int.reduceAdd, Int.reduceMul, Int.reduceSub, Int.reduceNeg, Int.reduceToNat, ho]
  · have := h.off ho
    simp -implicitDefEqProofs (disch := first | omega | (simp only [St.set_n, St.up_n, List.length_cons, List.length_nil]; omega)) only [go_sem, Nat.reduceAdd, Nat.reduceMul, Nat.reduceSub, Int.reduceAdd, Int.reduceMul, Int.reduceSub, Int.reduceNeg, Int.reduceToNat, ho]
  · have := h.old c hc hcq
    simp -implicitDefEqProofs (disch := first | omega | (simp only [St.set_n, St.up_n, List.length_cons, List.length_nil]; omega)) only [go_sem, Nat.reduceAdd, Nat.reduceMul, Nat.reduceSub, Int.reduceAdd, Int.reduceMul, Int.reduceSub, Int.reduceNeg, Int.reduceToNat, this]
theorem RfM.did {q b9 c9 t : Nat} {th : List (List (Int × Int))} {w : WS} {px : Nat → Nat} {mv : List Int} {v10 v' : Value} {s1 s2 : St} {sp9 : List Value} (h : RfM σ q th w px mv (.slice (some ⟨b9, 0, none⟩) th.length c9) v10 s1) (m9 : s1.m b9 = some (.raw (.cells (pxs px th.length ++ sp9).toArray 3 (0, 0))))
    (hc9 : th.length ≤ c9) (l9 : (pxs px th.length ++ sp9).length = c9 * 1)
    (hws1 : s1.wf B) (o2 : Own s2 3 1 (ints mv ++ [.int .i64 t]) (mv.length + 1) v') (heq : ∀ c, c < s1.n → blk v10 ≠ some c → s2.m c = s1.m c) (hb1 : ∀ b, blk v' = some b → s1.n ≤ b ∨ blk v10 = some b) (hn2 : s1.n ≤ s2.n) (hws2 : s2.wf B) :
    RfM σ q th w (updAt px t) (mv ++ [(t : Int)]) (.slice (some ⟨b9, 0, none⟩) th.length c9) v' (s2.set b9 (.raw (.cells (pxs (updAt px t) th.length ++ sp9).toArray 3 (0, 0)))) := by
  have hb9 := (hws1.2 _ _ m9).2
  have hq1 := (hws1.2 _ _ h.wq).2
  have hbq := h.off m9
  have hn := h.n
  have hb9' : ∀ b, blk v' = some b → b ≠ b9 := fun b hb e => by
    rcases hb1 b hb with h1 | h1
    · omega
    · exact (h.nb b h1).2 (by rw [e]; rfl)
  have hqv : blk v10 ≠ some q := fun e => by
    obtain ⟨o, ho⟩ := h.om.at_ e
    exact h.off ho rfl
  have hq2 := (heq q hq1 hqv).trans h.wq
  refine ⟨by simp -implicitDefEqProofs (disch := first | omega | (simp only [St.set_n, St.up_n, List.length_cons, List.length_nil]; omega)) only [go_sem, Nat.reduceAdd, Nat.reduceMul, Nat.reduceSub, Int.reduceAdd, Int.reduceMul, Int.reduceSub, Int.reduceNeg, Int.reduceToNat, hq2], Own.of' (sp := sp9) (by simp -implicitDefEqProofs (disch := first | omega | (simp only [St.set_n, St.up_n, List.length_cons, List.length_nil]; omega)) only [go_sem, Nat.reduceAdd, Nat.reduceMul, Nat.reduceSub, Int.reduceAdd, Int.reduceMul, Int.reduceSub, Int.reduceNeg, Int.reduceToNat]) (by rw [pxs_len]; omega) hc9 (by simp only [List.length_append, pxs_len] at l9 ⊢; exact l9), ?_, fun b hb => ⟨?_, fun e => ?_⟩, h.na, fun c hc hcq => ?_, by simp only [St.set_n]; omega⟩
  · have e : ints (mv ++ [(t : Int)]) = ints mv ++ [.int .i64 t] := by rw [ints_append]; rfl
    rw [e, List.length_append]
    refine o2.keepR fun b o hb ho => ?_
    have := hb9' b hb
    simp -implicitDefEqProofs (disch := first | omega | (simp only [St.set_n, St.up_n, List.length_cons, List.length_nil]; omega)) only [go_sem, Nat.reduceAdd, Nat.reduceMul, Nat.reduceSub, Int.reduceAdd, Int.reduceMul, Int.reduceSub, Int.reduceNeg, Int.reduceToNat, ho]
  · rcases hb1 b hb with h1 | h1
    · omega
    · exact (h.nb b h1).1
  · simp only [blk, Option.some.injEq] at e
    exact hb9' b hb e.symm
  · have h1 := h.na b9 rfl
    have h2 := (heq c (by omega) fun e => by have := (h.nb c e).1; omega).trans (h.old c hc hcq)
    simp -implicitDefEqProofs (disch := first | omega | (simp only [St.set_n, St.up_n, List.length_cons, List.length_nil]; omega)) only [go_sem, Nat.reduceAdd, Nat.reduceMul, Nat.reduceSub, Int.reduceAdd, Int.reduceMul, Int.reduceSub, Int.reduceNeg, Int.reduceToNat, h2]
structure RfF (pv tv : Value) (q : Nat) (v9 v10 : Value) (ca : Nat) (e : Fr) : Prop where
  v0 : e.v 0 = pv
  v1 : e.v 1 = tv
  v2 : e.v 2 = .pointer (some ⟨q, 0, none⟩)
  v9 : e.v 9 = v9
  v10 : e.v 10 = v10
  v11 : e.v 11 = .int .i64 ca
  d : e.d = []
structure RfI (i : Nat) (e : Fr) : Prop where
  v12 : e.v 12 = .int .i64 i
structure RfE (lf y : Bool) (e : Fr) : Prop where
  v14 : e.v 14 = .bool lf
  v15 : e.v 15 = .bool y
structure RfJ (i : Nat) (e : Fr) : Prop where
  v16 : e.v 16 = .int .i64 i
set_option maxHeartbeats 16000000 in
theorem ref06 {q : Nat} {th : List (List (Int × Int))} {tv pv : Value} {picks : List Int} {S : WS} (hv : SlR B 1 (RTh B) th tv) (hp : SlR B 1 RInt picks pv) (hs : Sm th) (hpl : picks.length ≤ 1000000) (hq : σ.m q = some (.comp (WoR S q))) (hS : S.D = [])
    {R : RS × Int} (hR : loopP th 70000 (picksP th ⟨S, fun _ => 0, [], 0⟩ picks) = R)
    (hK : ∀ mv s, Own s 3 1 (ints R.1.mv) R.1.mv.length mv → s.m q = some (.comp (WoR R.1.w q)) → (∀ b, blk mv = some b → σ.n ≤ b) → (∀ c, c < σ.n → c ≠ q → s.m c = σ.m c) → σ.n ≤ s.n → K (.tuple #[mv, .int .i64 R.1.ca, .int .i64 R.2]) s) :
    Fn Try.prog B 46 #[pv, tv, .pointer (some ⟨q, 0, none⟩)] σ K := by
  obtain ⟨a, cap, rfl, hlc, hcm, hnil, hat⟩ := hv
  obtain ⟨pa, pc, rfl, hlp, hcp, hpnil, hpat⟩ := hp
  have hsn := hs.n
  refine Fn.ofS is46 (by simp) fun hwf => ?_
  have hB := hwf.1
  simp only [b46, Try.f46, Option.getD_some]
  refine SemS.seqw fun _ => ?_
  simp -implicitDefEqProofs (disch := first | omega | (simp only [St.set_n, St.up_n, List.length_cons, List.length_nil]; omega)) only [go_sem, Nat.reduceAdd, Nat.reduceMul, Nat.reduceSub, Int.reduceAdd, Int.reduceMul, Int.reduceSub, Int.reduceNeg, Int.reduceToNat]
  refine SemS.seqw fun _ => ?_
  simp -implicitDefEqProofs (disch := first | omega | (simp only [St.set_n, St.up_n, List.length_cons, List.length_nil]; omega)) only [go_sem, Nat.reduceAdd, Nat.reduceMul, Nat.reduceSub, Int.reduceAdd, Int.reduceMul, Int.reduceSub, Int.reduceNeg, Int.reduceToNat]
  have hqn := (hwf.2 _ _ hq).2
  have hM0 : RfM σ q th S (fun _ => 0) [] (.slice (some ⟨σ.n, 0, none⟩) th.length th.length) (.slice none 0 0) ((σ.set σ.n (.raw (.cells (zc (.int .i64 0) th.length) 3 (0, 0)))).up (σ.n + 1)) := by
    have hz : zc (.int .i64 0) th.length = (pxs (fun _ => 0) th.length).toArray := by rw [zc_one rfl, pxs_zero]; simp
    refine ⟨by simp -implicitDefEqProofs (disch := first | omega | (simp only [St.set_n, St.up_n, List.length_cons, List.length_nil]; omega)) only [go_sem, Nat.reduceAdd, Nat.reduceMul, Nat.reduceSub, Int.reduceAdd, Int.reduceMul, Int.reduceSub, Int.reduceNeg, Int.reduceToNat, hq], Own.of' (sp := []) (by rw [hz]; simp -implicitDefEqProofs (disch := first | omega | (simp only [St.set_n, St.up_n, List.length_cons, List.length_nil]; omega)) only [go_sem, Nat.reduceAdd, Nat.reduceMul, Nat.reduceSub, Int.reduceAdd, Int.reduceMul, Int.reduceSub, Int.reduceNeg, Int.reduceToNat]) (by rw [pxs_len]; omega) (Nat.le_refl _) (by simp [pxs_len]), Own.nil, fun b hb => (by cases hb), fun b hb => ?_, fun c hc hcq => (by simp -implicitDefEqProofs (disch := first | omega | (simp only [St.set_n, St.up_n, List.length_cons, List.length_nil]; omega)) only [go_sem, Nat.reduceAdd, Nat.reduceMul, Nat.reduceSub, Int.reduceAdd, Int.reduceMul, Int.reduceSub, Int.reduceNeg, Int.reduceToNat]), (by simp only [St.up_n]; omega)⟩
    simp only [blk, Option.some.injEq] at hb; omega
  have hG0 : GoodP th ⟨S, fun _ => 0, [], 0⟩ := by
    refine ⟨⟨?_, fun t _ => Nat.zero_le _⟩, ?_⟩
    · simp only [hS, List.length_nil]
      induction th.length with
      | zero => rfl
      | succ n ih => rw [tot, ← ih]
    · simp only [List.length_nil]
      induction th.length with
      | zero => rfl
      | succ n ih => rw [tot, ← ih]
  generalize (σ.set σ.n (.raw (.cells (zc (.int .i64 0) th.length) 3 (0, 0)))).up (σ.n + 1) = s1 at hM0 ⊢
  refine SemS.seqw fun _ => ?_
  simp -implicitDefEqProofs (disch := first | omega | (simp only [St.set_n, St.up_n, List.length_cons, List.length_nil]; omega)) only [go_sem, Nat.reduceAdd, Nat.reduceMul, Nat.reduceSub, Int.reduceAdd, Int.reduceMul, Int.reduceSub, Int.reduceNeg, Int.reduceToNat]
  refine SemS.seqw fun _ => ?_
  simp -implicitDefEqProofs (disch := first | omega | (simp only [St.set_n, St.up_n, List.length_cons, List.length_nil]; omega)) only [go_sem, Nat.reduceAdd, Nat.reduceMul, Nat.reduceSub, Int.reduceAdd, Int.reduceMul, Int.reduceSub, Int.reduceNeg, Int.reduceToNat]
  obtain ⟨Pk, hPk⟩ : ∃ Pk, Pk = picksP th ⟨S, fun _ => 0, [], 0⟩ picks := ⟨_, rfl⟩
  rw [← hPk] at hR
  refine SemS.seq (fun e s => ∃ v9 v10, RfF (.slice pa picks.length pc) (.slice a th.length cap) q v9 v10 Pk.ca e ∧ RfM σ q th Pk.w Pk.px Pk.mv v9 v10 s ∧ GoodP th Pk ∧ Pk.ca ≤ picks.length) ?_ ?_
  · refine SemS.seqw fun _ => ?_
    simp -implicitDefEqProofs (disch := first | omega | (simp only [St.set_n, St.up_n, List.length_cons, List.length_nil]; omega)) only [go_sem, Nat.reduceAdd, Nat.reduceMul, Nat.reduceSub, Int.reduceAdd, Int.reduceMul, Int.reduceSub, Int.reduceNeg, Int.reduceToNat]
    refine SemS.block (SemS.loop (fun m e s => ∃ (i : Nat) (a' : RS) (v9 v10 : Value), m = picks.length - i ∧ i ≤ picks.length ∧ RfF (.slice pa picks.length pc) (.slice a th.length cap) q v9 v10 a'.ca e ∧ RfI i e ∧ RfM σ q th a'.w a'.px a'.mv v9 v10 s ∧ GoodP th a' ∧ picksP th a' (picks.drop i) = Pk ∧ a'.ca ≤ i) picks.length ?_ ?_)
    · exact ⟨0, _, _, _, by omega, by omega, ⟨by simp -implicitDefEqProofs (disch := first | omega | (simp only [St.set_n, St.up_n, List.length_cons, List.length_nil]; omega)) only [go_sem, Nat.reduceAdd, Nat.reduceMul, Nat.reduceSub, Int.reduceAdd, Int.reduceMul, Int.reduceSub, Int.reduceNeg, Int.reduceToNat], by simp -implicitDefEqProofs (disch := first | omega | (simp only [St.set_n, St.up_n, List.length_cons, List.length_nil]; omega)) only [go_sem, Nat.reduceAdd, Nat.reduceMul, Nat.reduceSub, Int.reduceAdd, Int.reduceMul, Int.reduceSub, Int.reduceNeg, Int.reduceToNat], by simp -implicitDefEqProofs (disch := first | omega | (simp only [St.set_n, St.up_n, List.length_cons, List.length_nil]; omega)) only [go_sem, Nat.reduceAdd, Nat.reduceMul, Nat.reduceSub, Int.reduceAdd, Int.reduceMul, Int.reduceSub, Int.reduceNeg, Int.reduceToNat], by simp -implicitDefEqProofs (disch := first | omega | (simp only [St.set_n, St.up_n, List.length_cons, List.length_nil]; omega)) only [go_sem, Nat.reduceAdd, Nat.reduceMul, Nat.reduceSub, Int.reduceAdd, Int.reduceMul, Int.reduceSub, Int.reduceNeg, Int.reduceToNat], by simp -implicitDefEqProofs (disch := first | omega | (simp only [St.set_n, St.up_n, List.length_cons, List.length_nil]; omega)) only [go_sem, Nat.reduceAdd, Nat.reduceMul, Nat.reduceSub, Int.reduceAdd, Int.reduceMul, Int.reduceSub, Int.reduceNeg, Int.reduceToNat], by simp -implicitDefEqProofs (disch := first | omega | (simp only [St.set_n, St.up_n, List.length_cons, List.length_nil]; omega)) only [go_sem, Nat.reduceAdd, Nat.reduceMul, Nat.reduceSub, Int.reduceAdd, Int.reduceMul, Int.reduceSub, Int.reduceNeg, Int.reduceToNat]; rfl, by simp -implicitDefEqProofs (disch := first | omega | (simp only [St.set_n, St.up_n, List.length_cons, List.length_nil]; omega)) only [go_sem, Nat.reduceAdd, Nat.reduceMul, Nat.reduceSub, Int.reduceAdd, Int.reduceMul, Int.reduceSub, Int.reduceNeg, Int.reduceToNat]⟩, ⟨by simp -implicitDefEqProofs (disch := first | omega | (simp only [St.set_n, St.up_n, List.length_cons, List.length_nil]; omega)) only [go_sem, Nat.reduceAdd, Nat.reduceMul, Nat.reduceSub, Int.reduceAdd, Int.reduceMul, Int.reduceSub, Int.reduceNeg, Int.reduceToNat]; rfl⟩, hM0, hG0, by rw [List.drop_zero, hPk], Nat.zero_le _⟩
    clear hM0
    rintro m e s hws ⟨i, a', v9, v10, hm', hi, ⟨q0, q1, q2, q9, q10, q11, hd⟩, ⟨q12⟩, hM, hGd, hPi, hca⟩
    refine SemS.wp fun _ => ?_
    by_cases hlt : (i : Int) < picks.length
    · obtain ⟨x, hx⟩ : ∃ x, picks[i]? = some x := ⟨picks[i]'(by omega), List.getElem?_eq_getElem (by omega)⟩
      obtain ⟨b, o, cs, rfl, hbb, hRx, hsz, hcell⟩ := hpat i x hx
      simp only [RInt] at hRx
      subst hRx
      have c0 : B.cell? ⟨b, o + i * 1, none⟩ = _ := hcell 0 _ rfl
      rw [Nat.mul_one] at c0
      have hsb : s.m b = none := by
        cases hx : s.m b with
        | none => rfl
        | some y => have := (hws.2 _ _ hx).1; omega
      have hdr : picks.drop i = x :: picks.drop (i + 1) := by
        rw [List.drop_eq_getElem_cons (by omega)]
        rw [List.getElem?_eq_getElem (by omega)] at hx
        rw [Option.some.inj hx]
      rw [hdr, picksP] at hPi
      have hno : (turnP th a' x).1 = a' → ∀ e', RfF (.slice (some ⟨b, o, none⟩) picks.length pc) (.slice a th.length cap) q v9 v10 a'.ca e' → RfI (i + 1) e' → ∃ m', m' < m ∧ ∃ σ'', To B s σ'' ∧ ∃ (i : Nat) (a' : RS) (v9 v10 : Value), m' = picks.length - i ∧ i ≤ picks.length ∧ RfF (.slice (some ⟨b, o, none⟩) picks.length pc) (.slice a th.length cap) q v9 v10 a'.ca e' ∧ RfI i e' ∧ RfM σ q th a'.w a'.px a'.mv v9 v10 σ'' ∧ GoodP th a' ∧ picksP th a' (picks.drop i) = Pk ∧ a'.ca ≤ i := fun h1 e' h2 h3 => by
        rw [h1] at hPi
        exact ⟨_, by omega, _, To.refl _ _, i + 1, a', v9, v10, rfl, by omega, h2, h3, hM, hGd, hPi, by omega⟩
      by_cases h0 : x < 0
      · have hT : (turnP th a' x).1 = a' := by unfold turnP; rw [if_neg (by omega)]
        simp -implicitDefEqProofs (disch := first | omega | (simp only [St.set_n, St.up_n, List.length_cons, List.length_nil]; omega)) only [go_sem, Nat.reduceAdd, Nat.reduceMul, Nat.reduceSub, Int.reduceAdd, Int.reduceMul, Int.reduceSub, Int.reduceNeg, Int.reduceToNat, q0, q1, q2, q9, q10, q11, q12, hlt, hsb, hbb, c0, h0]
        exact hno hT _ ⟨by simp -implicitDefEqProofs (disch := first | omega | (simp only [St.set_n, St.up_n, List.length_cons, List.length_nil]; omega)) only [go_sem, Nat.reduceAdd, Nat.reduceMul, Nat.reduceSub, Int.reduceAdd, Int.reduceMul, Int.reduceSub, Int.reduceNeg, Int.reduceToNat, q0], by simp -implicitDefEqProofs (disch := first | omega | (simp only [St.set_n, St.up_n, List.length_cons, List.length_nil]; omega)) only [go_sem, Nat.reduceAdd, Nat.reduceMul, Nat.reduceSub, Int.reduceAdd, Int.reduceMul, Int.reduceSub, Int.reduceNeg, Int.reduceToNat, q1], by simp -implicitDefEqProofs (disch := first | omega | (simp only [St.set_n, St.up_n, List.length_cons, List.length_nil]; omega)) only [go_sem, Nat.reduceAdd, Nat.reduceMul, Nat.reduceSub, Int.reduceAdd, Int.reduceMul, Int.reduceSub, Int.reduceNeg, Int.reduceToNat, q2], by simp -implicitDefEqProofs (disch := first | omega | (simp only [St.set_n, St.up_n, List.length_cons, List.length_nil]; omega)) only [go_sem, Nat.reduceAdd, Nat.reduceMul, Nat.reduceSub, Int.reduceAdd, Int.reduceMul, Int.reduceSub, Int.reduceNeg, Int.reduceToNat, q9], by simp -implicitDefEqProofs (disch := first | omega | (simp only [St.set_n, St.up_n, List.length_cons, List.length_nil]; omega)) only [go_sem, Nat.reduceAdd, Nat.reduceMul, Nat.reduceSub, Int.reduceAdd, Int.reduceMul, Int.reduceSub, Int.reduceNeg, Int.reduceToNat, q10], by simp -implicitDefEqProofs (disch := first | omega | (simp only [St.set_n, St.up_n, List.length_cons, List.length_nil]; omega)) only [go_sem, Nat.reduceAdd, Nat.reduceMul, Nat.reduceSub, Int.reduceAdd, Int.reduceMul, Int.reduceSub, Int.reduceNeg, Int.reduceToNat, q11], by simp -implicitDefEqProofs (disch := first | omega | (simp only [St.set_n, St.up_n, List.length_cons, List.length_nil]; omega)) only [go_sem, Nat.reduceAdd, Nat.reduceMul, Nat.reduceSub, Int.reduceAdd, Int.reduceMul, Int.reduceSub, Int.reduceNeg, Int.reduceToNat, hd]⟩ ⟨by simp -implicitDefEqProofs (disch := first | omega | (simp only [St.set_n, St.up_n, List.length_cons, List.length_nil]; omega)) only [go_sem, Nat.reduceAdd, Nat.reduceMul, Nat.reduceSub, Int.reduceAdd, Int.reduceMul, Int.reduceSub, Int.reduceNeg, Int.reduceToNat]; rfl⟩
      by_cases h1 : (th.length : Int) ≤ x
      · have hT : (turnP th a' x).1 = a' := by unfold turnP; rw [if_neg (by omega)]
        simp -implicitDefEqProofs (disch := first | omega | (simp only [St.set_n, St.up_n, List.length_cons, List.length_nil]; omega)) only [go_sem, Nat.reduceAdd, Nat.reduceMul, Nat.reduceSub, Int.reduceAdd, Int.reduceMul, Int.reduceSub, Int.reduceNeg, Int.reduceToNat, q0, q1, q2, q9, q10, q11, q12, hlt, hsb, hbb, c0, h0, h1]
        exact hno hT _ ⟨by simp -implicitDefEqProofs (disch := first | omega | (simp only [St.set_n, St.up_n, List.length_cons, List.length_nil]; omega)) only [go_sem, Nat.reduceAdd, Nat.reduceMul, Nat.reduceSub, Int.reduceAdd, Int.reduceMul, Int.reduceSub, Int.reduceNeg, Int.reduceToNat, q0], by simp -implicitDefEqProofs (disch := first | omega | (simp only [St.set_n, St.up_n, List.length_cons, List.length_nil]; omega)) only [go_sem, Nat.reduceAdd, Nat.reduceMul, Nat.reduceSub, Int.reduceAdd, Int.reduceMul, Int.reduceSub, Int.reduceNeg, Int.reduceToNat, q1], by simp -implicitDefEqProofs (disch := first | omega | (simp only [St.set_n, St.up_n, List.length_cons, List.length_nil]; omega)) only [go_sem, Nat.reduceAdd, Nat.reduceMul, Nat.reduceSub, Int.reduceAdd, Int.reduceMul, Int.reduceSub, Int.reduceNeg, Int.reduceToNat, q2], by simp -implicitDefEqProofs (disch := first | omega | (simp only [St.set_n, St.up_n, List.length_cons, List.length_nil]; omega)) only [go_sem, Nat.reduceAdd, Nat.reduceMul, Nat.reduceSub, Int.reduceAdd, Int.reduceMul, Int.reduceSub, Int.reduceNeg, Int.reduceToNat, q9], by simp -implicitDefEqProofs (disch := first | omega | (simp only [St.set_n, St.up_n, List.length_cons, List.length_nil]; omega)) only [go_sem, Nat.reduceAdd, Nat.reduceMul, Nat.reduceSub, Int.reduceAdd, Int.reduceMul, Int.reduceSub, Int.reduceNeg, Int.reduceToNat, q10], by simp -implicitDefEqProofs (disch := first | omega | (simp only [St.set_n, St.up_n, List.length_cons, List.length_nil]; omega)) only [go_sem, Nat.reduceAdd, Nat.reduceMul, Nat.reduceSub, Int.reduceAdd, Int.reduceMul, Int.reduceSub, Int.reduceNeg, Int.reduceToNat, q11], by simp -implicitDefEqProofs (disch := first | omega | (simp only [St.set_n, St.up_n, List.length_cons, List.length_nil]; omega)) only [go_sem, Nat.reduceAdd, Nat.reduceMul, Nat.reduceSub, Int.reduceAdd, Int.reduceMul, Int.reduceSub, Int.reduceNeg, Int.reduceToNat, hd]⟩ ⟨by simp -implicitDefEqProofs (disch := first | omega | (simp only [St.set_n, St.up_n, List.length_cons, List.length_nil]; omega)) only [go_sem, Nat.reduceAdd, Nat.reduceMul, Nat.reduceSub, Int.reduceAdd, Int.reduceMul, Int.reduceSub, Int.reduceNeg, Int.reduceToNat]; rfl⟩
      obtain ⟨t, rfl⟩ : ∃ t : Nat, x = t := ⟨x.toNat, by omega⟩
      have htn : t < th.length := by omega
      obtain ⟨l, hl⟩ : ∃ l, th[t]? = some l := ⟨th[t]'(by omega), List.getElem?_eq_getElem (by omega)⟩
      obtain ⟨b2, o2, cs2, rfl, hbb2, ⟨v1, hcs, hv1⟩, hsz2, hcell2⟩ := hat t l hl
      subst hcs
      have c2 : B.cell? ⟨b2, o2 + t * 1, none⟩ = _ := hcell2 0 _ rfl
      rw [Nat.mul_one] at c2
      obtain ⟨a3, cap3, rfl, hlc3, hcm3, hnil3, hat3⟩ := hv1
      have hsb2 : s.m b2 = none := by
        cases hx : s.m b2 with
        | none => rfl
        | some y => have := (hws.2 _ _ hx).1; omega
      have hlT : lenT th t = l.length := by unfold lenT; rw [List.getD_eq_getElem?_getD, hl]; rfl
      obtain ⟨b9, c9, sp9, rfl, hc9, m9, l9, _⟩ := hM.oa.has (by omega)
      have g9 := pxs_get (px := a'.px) htn sp9
      by_cases h2 : (l.length : Int) ≤ a'.px t
      · have hT : (turnP th a' t).1 = a' := by unfold turnP; rw [if_neg (by simp only [Int.toNat_natCast]; omega)]
        simp -implicitDefEqProofs (disch := first | omega | (simp only [St.set_n, St.up_n, List.length_cons, List.length_nil]; omega)) only [go_sem, Nat.reduceAdd, Nat.reduceMul, Nat.reduceSub, Int.reduceAdd, Int.reduceMul, Int.reduceSub, Int.reduceNeg, Int.reduceToNat, q0, q1, q2, q9, q10, q11, q12, hlt, hsb, hbb, c0, h0, h1, hsb2, hbb2, c2, m9, g9, h2]
        exact hno hT _ ⟨by simp -implicitDefEqProofs (disch := first | omega | (simp only [St.set_n, St.up_n, List.length_cons, List.length_nil]; omega)) only [go_sem, Nat.reduceAdd, Nat.reduceMul, Nat.reduceSub, Int.reduceAdd, Int.reduceMul, Int.reduceSub, Int.reduceNeg, Int.reduceToNat, q0], by simp -implicitDefEqProofs (disch := first | omega | (simp only [St.set_n, St.up_n, List.length_cons, List.length_nil]; omega)) only [go_sem, Nat.reduceAdd, Nat.reduceMul, Nat.reduceSub, Int.reduceAdd, Int.reduceMul, Int.reduceSub, Int.reduceNeg, Int.reduceToNat, q1], by simp -implicitDefEqProofs (disch := first | omega | (simp only [St.set_n, St.up_n, List.length_cons, List.length_nil]; omega)) only [go_sem, Nat.reduceAdd, Nat.reduceMul, Nat.reduceSub, Int.reduceAdd, Int.reduceMul, Int.reduceSub, Int.reduceNeg, Int.reduceToNat, q2], by simp -implicitDefEqProofs (disch := first | omega | (simp only [St.set_n, St.up_n, List.length_cons, List.length_nil]; omega)) only [go_sem, Nat.reduceAdd, Nat.reduceMul, Nat.reduceSub, Int.reduceAdd, Int.reduceMul, Int.reduceSub, Int.reduceNeg, Int.reduceToNat, q9], by simp -implicitDefEqProofs (disch := first | omega | (simp only [St.set_n, St.up_n, List.length_cons, List.length_nil]; omega)) only [go_sem, Nat.reduceAdd, Nat.reduceMul, Nat.reduceSub, Int.reduceAdd, Int.reduceMul, Int.reduceSub, Int.reduceNeg, Int.reduceToNat, q10], by simp -implicitDefEqProofs (disch := first | omega | (simp only [St.set_n, St.up_n, List.length_cons, List.length_nil]; omega)) only [go_sem, Nat.reduceAdd, Nat.reduceMul, Nat.reduceSub, Int.reduceAdd, Int.reduceMul, Int.reduceSub, Int.reduceNeg, Int.reduceToNat, q11], by simp -implicitDefEqProofs (disch := first | omega | (simp only [St.set_n, St.up_n, List.length_cons, List.length_nil]; omega)) only [go_sem, Nat.reduceAdd, Nat.reduceMul, Nat.reduceSub, Int.reduceAdd, Int.reduceMul, Int.reduceSub, Int.reduceNeg, Int.reduceToNat, hd]⟩ ⟨by simp -implicitDefEqProofs (disch := first | omega | (simp only [St.set_n, St.up_n, List.length_cons, List.length_nil]; omega)) only [go_sem, Nat.reduceAdd, Nat.reduceMul, Nat.reduceSub, Int.reduceAdd, Int.reduceMul, Int.reduceSub, Int.reduceNeg, Int.reduceToNat]; rfl⟩
      obtain ⟨y, hy⟩ : ∃ y, l[a'.px t]? = some y := ⟨l[a'.px t]'(by omega), List.getElem?_eq_getElem (by omega)⟩
      obtain ⟨b1, o1, cs1, rfl, hbb1, hRx, hsz1, hcell1⟩ := hat3 _ y hy
      simp only [RIn] at hRx
      subst hRx
      have d0 : B.cell? ⟨b1, o1 + a'.px t * 2, none⟩ = _ := hcell1 0 _ rfl
      have d1 : B.cell? ⟨b1, o1 + a'.px t * 2 + 1, none⟩ = _ := hcell1 1 _ rfl
      have hsb1 : s.m b1 = none := by
        cases hx : s.m b1 with
        | none => rfl
        | some y => have := (hws.2 _ _ hx).1; omega
      have hpx : a'.px t ≤ 60 := by have := hs.l t htn; omega
      have hyi : insT th t (a'.px t) = y := by
        unfold insT
        rw [List.getD_eq_getElem?_getD, List.getD_eq_getElem?_getD, hl]
        show (l[a'.px t]?).getD _ = y
        rw [hy]; rfl
      have hT : (turnP th a' t).1 = ⟨(doA a'.w t (a'.px t) y.1 y.2).1, if (doA a'.w t (a'.px t) y.1 y.2).2 then updAt a'.px t else a'.px, if (doA a'.w t (a'.px t) y.1 y.2).2 then a'.mv ++ [(t : Int)] else a'.mv, a'.ca + 1⟩ := by
        unfold turnP
        rw [if_pos ⟨by omega, by omega, by simp only [Int.toNat_natCast]; omega⟩]
        simp only [Int.toNat_natCast, actW, hyi]
      have hG2 := hGd.turn t
      have hle := hGd.le hs
      simp -implicitDefEqProofs (disch := first | omega | (simp only [St.set_n, St.up_n, List.length_cons, List.length_nil]; omega)) only [go_sem, Nat.reduceAdd, Nat.reduceMul, Nat.reduceSub, Int.reduceAdd, Int.reduceMul, Int.reduceSub, Int.reduceNeg, Int.reduceToNat, q0, q1, q2, q9, q10, q11, q12, hlt, hsb, hbb, c0, h0, h1, hsb2, hbb2, c2, m9, g9, h2, hsb1, hbb1, d0, d1]
      refine effD_plan [0, 0, 0, 0, 12, 28, 0, 0, 192, 448, 0, 0, 3072, 7168, 16320, 32704, 65535] [0, 1, 2, 3, 4, 5, 6, 7, 8, 9, 10, 11, 12, 13, 14, 15] (.eag 0 (.eag 1 (.eag 2 (.eag 3 (.eag 4 (.eagq 5 (.eag 6 (.eag 7 (.eag 8 (.eagq 9 (.eag 10 (.eag 11 (.eag 12 (.eagq 13 (.eag 14 (.eagq 15 (.alt 16 [] .fin .stop))))))))))))))))) (by kernel_rfl) ?_
      simp -implicitDefEqProofs (disch := first | omega | (simp only [St.set_n, St.up_n, List.length_cons, List.length_nil]; omega)) only [go_sem, Nat.reduceAdd, Nat.reduceMul, Nat.reduceSub, Int.reduceAdd, Int.reduceMul, Int.reduceSub, Int.reduceNeg, Int.reduceToNat, q0, q1, q2, q9, q10, q11, q12, hlt, hsb, hbb, c0, h0, h1, hsb2, hbb2, c2, m9, g9, h2, hsb1, hbb1, d0, d1]
      refine callF_wf (wo_do hM.wq (by omega) (by omega) fun k hk hws1 => ?_)
      rw [hT] at hPi hG2
      have hbq : b9 ≠ q := fun e => by
        have := hM.wq
        rw [← e, m9] at this
        cases this
      cases hok : (doA a'.w t (a'.px t) y.1 y.2).2 with
      | false =>
        rw [hok] at hPi hG2
        simp only [Bool.false_eq_true, if_false] at hPi hG2
        simp -implicitDefEqProofs (disch := first | omega | (simp only [St.set_n, St.up_n, List.length_cons, List.length_nil]; omega)) only [go_sem, Nat.reduceAdd, Nat.reduceMul, Nat.reduceSub, Int.reduceAdd, Int.reduceMul, Int.reduceSub, Int.reduceNeg, Int.reduceToNat, q12]
        exact ⟨_, by omega, _, To.refl _ _, i + 1, _, _, v10, rfl, by omega, ⟨by simp -implicitDefEqProofs (disch := first | omega | (simp only [St.set_n, St.up_n, List.length_cons, List.length_nil]; omega)) only [go_sem, Nat.reduceAdd, Nat.reduceMul, Nat.reduceSub, Int.reduceAdd, Int.reduceMul, Int.reduceSub, Int.reduceNeg, Int.reduceToNat, q0], by simp -implicitDefEqProofs (disch := first | omega | (simp only [St.set_n, St.up_n, List.length_cons, List.length_nil]; omega)) only [go_sem, Nat.reduceAdd, Nat.reduceMul, Nat.reduceSub, Int.reduceAdd, Int.reduceMul, Int.reduceSub, Int.reduceNeg, Int.reduceToNat, q1], by simp -implicitDefEqProofs (disch := first | omega | (simp only [St.set_n, St.up_n, List.length_cons, List.length_nil]; omega)) only [go_sem, Nat.reduceAdd, Nat.reduceMul, Nat.reduceSub, Int.reduceAdd, Int.reduceMul, Int.reduceSub, Int.reduceNeg, Int.reduceToNat, q2], by simp -implicitDefEqProofs (disch := first | omega | (simp only [St.set_n, St.up_n, List.length_cons, List.length_nil]; omega)) only [go_sem, Nat.reduceAdd, Nat.reduceMul, Nat.reduceSub, Int.reduceAdd, Int.reduceMul, Int.reduceSub, Int.reduceNeg, Int.reduceToNat, q9], by simp -implicitDefEqProofs (disch := first | omega | (simp only [St.set_n, St.up_n, List.length_cons, List.length_nil]; omega)) only [go_sem, Nat.reduceAdd, Nat.reduceMul, Nat.reduceSub, Int.reduceAdd, Int.reduceMul, Int.reduceSub, Int.reduceNeg, Int.reduceToNat, q10], by simp -implicitDefEqProofs (disch := first | omega | (simp only [St.set_n, St.up_n, List.length_cons, List.length_nil]; omega)) only [go_sem, Nat.reduceAdd, Nat.reduceMul, Nat.reduceSub, Int.reduceAdd, Int.reduceMul, Int.reduceSub, Int.reduceNeg, Int.reduceToNat]; rfl, by simp -implicitDefEqProofs (disch := first | omega | (simp only [St.set_n, St.up_n, List.length_cons, List.length_nil]; omega)) only [go_sem, Nat.reduceAdd, Nat.reduceMul, Nat.reduceSub, Int.reduceAdd, Int.reduceMul, Int.reduceSub, Int.reduceNeg, Int.reduceToNat, hd]⟩, ⟨by simp -implicitDefEqProofs (disch := first | omega | (simp only [St.set_n, St.up_n, List.length_cons, List.length_nil]; omega)) only [go_sem, Nat.reduceAdd, Nat.reduceMul, Nat.reduceSub, Int.reduceAdd, Int.reduceMul, Int.reduceSub, Int.reduceNeg, Int.reduceToNat]; rfl⟩, hM.call _ hk, hG2, hPi, by simp only; omega⟩
      | true =>
        rw [hok] at hPi hG2
        simp only [if_true] at hPi hG2
        have hM1 := hM.call (doA a'.w t (a'.px t) y.1 y.2).1 hk
        have m91 : ((s.set q (.comp (WoR (doA a'.w t (a'.px t) y.1 y.2).1 q))).up k).m b9 = some (.raw (.cells (pxs a'.px th.length ++ sp9).toArray 3 (0, 0))) := by simp -implicitDefEqProofs (disch := first | omega | (simp only [St.set_n, St.up_n, List.length_cons, List.length_nil]; omega)) only [go_sem, Nat.reduceAdd, Nat.reduceMul, Nat.reduceSub, Int.reduceAdd, Int.reduceMul, Int.reduceSub, Int.reduceNeg, Int.reduceToNat, m9]
        have hkn : ((s.set q (.comp (WoR (doA a'.w t (a'.px t) y.1 y.2).1 q))).up k).n = k := rfl
        generalize (s.set q (.comp (WoR (doA a'.w t (a'.px t) y.1 y.2).1 q))).up k = s1 at hM1 m91 hkn hws1 ⊢
        subst hkn
        obtain ⟨A10, c10, rfl, _⟩ := hM.om.is
        simp -implicitDefEqProofs (disch := first | omega | (simp only [St.set_n, St.up_n, List.length_cons, List.length_nil]; omega)) only [go_sem, Nat.reduceAdd, Nat.reduceMul, Nat.reduceSub, Int.reduceAdd, Int.reduceMul, Int.reduceSub, Int.reduceNeg, Int.reduceToNat, q10]
        refine appE hws1 hM1.om se28 kd28 zr3 rfl (by omega) (ys := [.int .i64 t]) rfl rfl (by omega) fun A' C' s2 hC' o2 heq hb1 hn2 hws2 => ?_
        have hb9n := (hws1.2 _ _ m91).2
        have m92 := (heq b9 hb9n fun e => (hM1.nb b9 e).2 rfl).trans m91
        have st := pxs_set (px := a'.px) htn sp9
        simp -implicitDefEqProofs (disch := first | omega | (simp only [St.set_n, St.up_n, List.length_cons, List.length_nil]; omega)) only [go_sem, Nat.reduceAdd, Nat.reduceMul, Nat.reduceSub, Int.reduceAdd, Int.reduceMul, Int.reduceSub, Int.reduceNeg, Int.reduceToNat, q9, q12, m92, g9, st, htn]
        exact ⟨_, by omega, _, To.refl _ _, i + 1, _, .slice (some ⟨b9, 0, none⟩) th.length c9, _, rfl, by omega, ⟨by simp -implicitDefEqProofs (disch := first | omega | (simp only [St.set_n, St.up_n, List.length_cons, List.length_nil]; omega)) only [go_sem, Nat.reduceAdd, Nat.reduceMul, Nat.reduceSub, Int.reduceAdd, Int.reduceMul, Int.reduceSub, Int.reduceNeg, Int.reduceToNat, q0], by simp -implicitDefEqProofs (disch := first | omega | (simp only [St.set_n, St.up_n, List.length_cons, List.length_nil]; omega)) only [go_sem, Nat.reduceAdd, Nat.reduceMul, Nat.reduceSub, Int.reduceAdd, Int.reduceMul, Int.reduceSub, Int.reduceNeg, Int.reduceToNat, q1], by simp -implicitDefEqProofs (disch := first | omega | (simp only [St.set_n, St.up_n, List.length_cons, List.length_nil]; omega)) only [go_sem, Nat.reduceAdd, Nat.reduceMul, Nat.reduceSub, Int.reduceAdd, Int.reduceMul, Int.reduceSub, Int.reduceNeg, Int.reduceToNat, q2], by simp -implicitDefEqProofs (disch := first | omega | (simp only [St.set_n, St.up_n, List.length_cons, List.length_nil]; omega)) only [go_sem, Nat.reduceAdd, Nat.reduceMul, Nat.reduceSub, Int.reduceAdd, Int.reduceMul, Int.reduceSub, Int.reduceNeg, Int.reduceToNat, q9], by first | (simp -implicitDefEqProofs (disch := first | omega | (simp only [St.set_n, St.up_n, List.length_cons, List.length_nil]; omega)) only [go_sem, Nat.reduceAdd, Nat.reduceMul, Nat.reduceSub, Int.reduceAdd, Int.reduceMul, Int.reduceSub, Int.reduceNeg, Int.reduceToNat]; done) | (simp -implicitDefEqProofs (disch := first | omega | (simp only [St.set_n, St.up_n, List.length_cons, List.length_nil]; omega)) only [go_sem, Nat.reduceAdd, Nat.reduceMul, Nat.reduceSub, Int.reduceAdd, Int.reduceMul, Int.reduceSub, Int.reduceNeg, Int.reduceToNat]; rfl), by first | (simp -implicitDefEqProofs (disch := first | omega | (simp only [St.set_n, St.up_n, List.length_cons, List.length_nil]; omega)) only [go_sem, Nat.reduceAdd, Nat.reduceMul, Nat.reduceSub, Int.reduceAdd, Int.reduceMul, Int.reduceSub, Int.reduceNeg, Int.reduceToNat]; done) | (simp -implicitDefEqProofs (disch := first | omega | (simp only [St.set_n, St.up_n, List.length_cons, List.length_nil]; omega)) only [go_sem, Nat.reduceAdd, Nat.reduceMul, Nat.reduceSub, Int.reduceAdd, Int.reduceMul, Int.reduceSub, Int.reduceNeg, Int.reduceToNat]; rfl), by simp -implicitDefEqProofs (disch := first | omega | (simp only [St.set_n, St.up_n, List.length_cons, List.length_nil]; omega)) only [go_sem, Nat.reduceAdd, Nat.reduceMul, Nat.reduceSub, Int.reduceAdd, Int.reduceMul, Int.reduceSub, Int.reduceNeg, Int.reduceToNat, hd]⟩, ⟨by simp -implicitDefEqProofs (disch := first | omega | (simp only [St.set_n, St.up_n, List.length_cons, List.length_nil]; omega)) only [go_sem, Nat.reduceAdd, Nat.reduceMul, Nat.reduceSub, Int.reduceAdd, Int.reduceMul, Int.reduceSub, Int.reduceNeg, Int.reduceToNat]; rfl⟩, hM1.did m91 hc9 l9 hws1 o2 heq hb1 hn2 hws2, hG2, hPi, by simp only; omega⟩
    · have hie : i = picks.length := by omega
      subst hie
      rw [List.drop_length, picksP] at hPi
      subst hPi
      simp -implicitDefEqProofs (disch := first | omega | (simp only [St.set_n, St.up_n, List.length_cons, List.length_nil]; omega)) only [go_sem, Nat.reduceAdd, Nat.reduceMul, Nat.reduceSub, Int.reduceAdd, Int.reduceMul, Int.reduceSub, Int.reduceNeg, Int.reduceToNat, q0, q12, hlt]
      exact ⟨_, To.refl _ _, v9, v10, ⟨by simp -implicitDefEqProofs (disch := first | omega | (simp only [St.set_n, St.up_n, List.length_cons, List.length_nil]; omega)) only [go_sem, Nat.reduceAdd, Nat.reduceMul, Nat.reduceSub, Int.reduceAdd, Int.reduceMul, Int.reduceSub, Int.reduceNeg, Int.reduceToNat, q0], by simp -implicitDefEqProofs (disch := first | omega | (simp only [St.set_n, St.up_n, List.length_cons, List.length_nil]; omega)) only [go_sem, Nat.reduceAdd, Nat.reduceMul, Nat.reduceSub, Int.reduceAdd, Int.reduceMul, Int.reduceSub, Int.reduceNeg, Int.reduceToNat, q1], by simp -implicitDefEqProofs (disch := first | omega | (simp only [St.set_n, St.up_n, List.length_cons, List.length_nil]; omega)) only [go_sem, Nat.reduceAdd, Nat.reduceMul, Nat.reduceSub, Int.reduceAdd, Int.reduceMul, Int.reduceSub, Int.reduceNeg, Int.reduceToNat, q2], by simp -implicitDefEqProofs (disch := first | omega | (simp only [St.set_n, St.up_n, List.length_cons, List.length_nil]; omega)) only [go_sem, Nat.reduceAdd, Nat.reduceMul, Nat.reduceSub, Int.reduceAdd, Int.reduceMul, Int.reduceSub, Int.reduceNeg, Int.reduceToNat, q9], by simp -implicitDefEqProofs (disch := first | omega | (simp only [St.set_n, St.up_n, List.length_cons, List.length_nil]; omega)) only [go_sem, Nat.reduceAdd, Nat.reduceMul, Nat.reduceSub, Int.reduceAdd, Int.reduceMul, Int.reduceSub, Int.reduceNeg, Int.reduceToNat, q10], by simp -implicitDefEqProofs (disch := first | omega | (simp only [St.set_n, St.up_n, List.length_cons, List.length_nil]; omega)) only [go_sem, Nat.reduceAdd, Nat.reduceMul, Nat.reduceSub, Int.reduceAdd, Int.reduceMul, Int.reduceSub, Int.reduceNeg, Int.reduceToNat, q11], by simp -implicitDefEqProofs (disch := first | omega | (simp only [St.set_n, St.up_n, List.length_cons, List.length_nil]; omega)) only [go_sem, Nat.reduceAdd, Nat.reduceMul, Nat.reduceSub, Int.reduceAdd, Int.reduceMul, Int.reduceSub, Int.reduceNeg, Int.reduceToNat, hd]⟩, hM, hGd, hca⟩
  clear hM0 hG0
  rintro e s hws ⟨v9, v10, hF, hM, hGd, hca⟩
  refine SemS.block (SemS.loop (fun m e s => ∃ (k : Nat) (a' : RS) (v9 v10 : Value), m = 601 - a'.mv.length ∧ 601 - a'.mv.length ≤ k ∧ RfF (.slice pa picks.length pc) (.slice a th.length cap) q v9 v10 a'.ca e ∧ RfM σ q th a'.w a'.px a'.mv v9 v10 s ∧ GoodP th a' ∧ loopP th k a' = R ∧ a'.ca ≤ picks.length + 1000 * a'.mv.length) (601 - Pk.mv.length) ?_ ?_)
  · exact ⟨70000, Pk, v9, v10, rfl, by omega, hF, hM, hGd, hR, by omega⟩
  clear hF hM hGd hca hR hws
  rintro m e s hws ⟨k, a', v9, v10, hm, hk, ⟨q0, q1, q2, q9, q10, q11, hd⟩, hM, hGd, hR, hca⟩
  have hle0 := (hGd.le hs).1
  obtain ⟨k', rfl⟩ : ∃ k', k = k' + 1 := ⟨k - 1, by omega⟩
  rw [loopP] at hR
  refine SemS.block ?_
  refine SemS.seqw fun _ => ?_
  simp -implicitDefEqProofs (disch := first | omega | (simp only [St.set_n, St.up_n, List.length_cons, List.length_nil]; omega)) only [go_sem, Nat.reduceAdd, Nat.reduceMul, Nat.reduceSub, Int.reduceAdd, Int.reduceMul, Int.reduceSub, Int.reduceNeg, Int.reduceToNat]
  refine SemS.seq (fun e s => ∃ (a2 : RS) (v9 v10 : Value) (y : Bool), RfF (.slice pa picks.length pc) (.slice a th.length cap) q v9 v10 a2.ca e ∧ RfE (leftP th a'.px) y e ∧ RfM σ q th a2.w a2.px a2.mv v9 v10 s ∧ GoodP th a2 ∧ roundP th a' 0 false th.length = (a2, y)) ?_ ?_
  · refine SemS.seqw fun _ => ?_
    simp -implicitDefEqProofs (disch := first | omega | (simp only [St.set_n, St.up_n, List.length_cons, List.length_nil]; omega)) only [go_sem, Nat.reduceAdd, Nat.reduceMul, Nat.reduceSub, Int.reduceAdd, Int.reduceMul, Int.reduceSub, Int.reduceNeg, Int.reduceToNat]
    refine SemS.block (SemS.loop (fun m e s => ∃ (i : Nat) (a2 : RS) (v9 v10 : Value) (y : Bool), m = th.length - i ∧ i ≤ th.length ∧ RfF (.slice pa picks.length pc) (.slice a th.length cap) q v9 v10 a2.ca e ∧ RfE ((List.range i).any fun t => decide (a'.px t < lenT th t)) y e ∧ RfJ i e ∧ RfM σ q th a2.w a2.px a2.mv v9 v10 s ∧ GoodP th a2 ∧
      roundP th a2 i y (th.length - i) = roundP th a' 0 false th.length ∧ (∀ u, i ≤ u → a2.px u = a'.px u) ∧ a2.ca ≤ a'.ca + i) th.length ?_ ?_)
    · exact ⟨0, a', v9, v10, false, by omega, by omega, ⟨by simp -implicitDefEqProofs (disch := first | omega | (simp only [St.set_n, St.up_n, List.length_cons, List.length_nil]; omega)) only [go_sem, Nat.reduceAdd, Nat.reduceMul, Nat.reduceSub, Int.reduceAdd, Int.reduceMul, Int.reduceSub, Int.reduceNeg, Int.reduceToNat, q0], by simp -implicitDefEqProofs (disch := first | omega | (simp only [St.set_n, St.up_n, List.length_cons, List.length_nil]; omega)) only [go_sem, Nat.reduceAdd, Nat.reduceMul, Nat.reduceSub, Int.reduceAdd, Int.reduceMul, Int.reduceSub, Int.reduceNeg, Int.reduceToNat, q1], by simp -implicitDefEqProofs (disch := first | omega | (simp only [St.set_n, St.up_n, List.length_cons, List.length_nil]; omega)) only [go_sem, Nat.reduceAdd, Nat.reduceMul, Nat.reduceSub, Int.reduceAdd, Int.reduceMul, Int.reduceSub, Int.reduceNeg, Int.reduceToNat, q2], by simp -implicitDefEqProofs (disch := first | omega | (simp only [St.set_n, St.up_n, List.length_cons, List.length_nil]; omega)) only [go_sem, Nat.reduceAdd, Nat.reduceMul, Nat.reduceSub, Int.reduceAdd, Int.reduceMul, Int.reduceSub, Int.reduceNeg, Int.reduceToNat, q9], by simp -implicitDefEqProofs (disch := first | omega | (simp only [St.set_n, St.up_n, List.length_cons, List.length_nil]; omega)) only [go_sem, Nat.reduceAdd, Nat.reduceMul, Nat.reduceSub, Int.reduceAdd, Int.reduceMul, Int.reduceSub, Int.reduceNeg, Int.reduceToNat, q10], by simp -implicitDefEqProofs (disch := first | omega | (simp only [St.set_n, St.up_n, List.length_cons, List.length_nil]; omega)) only [go_sem, Nat.reduceAdd, Nat.reduceMul, Nat.reduceSub, Int.reduceAdd, Int.reduceMul, Int.reduceSub, Int.reduceNeg, Int.reduceToNat, q11], by simp -implicitDefEqProofs (disch := first | omega | (simp only [St.set_n, St.up_n, List.length_cons, List.length_nil]; omega)) only [go_sem, Nat.reduceAdd, Nat.reduceMul, Nat.reduceSub, Int.reduceAdd, Int.reduceMul, Int.reduceSub, Int.reduceNeg, Int.reduceToNat, hd]⟩, ⟨by first | (simp -implicitDefEqProofs (disch := first | omega | (simp only [St.set_n, St.up_n, List.length_cons, List.length_nil]; omega)) only [go_sem, Nat.reduceAdd, Nat.reduceMul, Nat.reduceSub, Int.reduceAdd, Int.reduceMul, Int.reduceSub, Int.reduceNeg, Int.reduceToNat]; done) | (simp -implicitDefEqProofs (disch := first | omega | (simp only [St.set_n, St.up_n, List.length_cons, List.length_nil]; omega)) only [go_sem, Nat.reduceAdd, Nat.reduceMul, Nat.reduceSub, Int.reduceAdd, Int.reduceMul, Int.reduceSub, Int.reduceNeg, Int.reduceToNat]; rfl), by simp -implicitDefEqProofs (disch := first | omega | (simp only [St.set_n, St.up_n, List.length_cons, List.length_nil]; omega)) only [go_sem, Nat.reduceAdd, Nat.reduceMul, Nat.reduceSub, Int.reduceAdd, Int.reduceMul, Int.reduceSub, Int.reduceNeg, Int.reduceToNat]⟩, ⟨by simp -implicitDefEqProofs (disch := first | omega | (simp only [St.set_n, St.up_n, List.length_cons, List.length_nil]; omega)) only [go_sem, Nat.reduceAdd, Nat.reduceMul, Nat.reduceSub, Int.reduceAdd, Int.reduceMul, Int.reduceSub, Int.reduceNeg, Int.reduceToNat]; rfl⟩, hM, hGd, rfl, fun u _ => rfl, by omega⟩
    clear q0 q1 q2 q9 q10 q11 hd hM hws
    rintro m2 e s hws ⟨i, a2, v9, v10, y, hm2, hi, ⟨q0, q1, q2, q9, q10, q11, hd⟩, ⟨q14, q15⟩, ⟨q16⟩, hM, hG2d, hPi, hpu, hca2⟩
    refine SemS.wp fun _ => ?_
    by_cases hlt : (i : Int) < th.length
    · have htn : i < th.length := by omega
      obtain ⟨l, hl⟩ : ∃ l, th[i]? = some l := ⟨th[i]'(by omega), List.getElem?_eq_getElem (by omega)⟩
      obtain ⟨b2, o2, cs2, rfl, hbb2, ⟨v1, hcs, hv1⟩, hsz2, hcell2⟩ := hat i l hl
      subst hcs
      have c2 : B.cell? ⟨b2, o2 + i * 1, none⟩ = _ := hcell2 0 _ rfl
      rw [Nat.mul_one] at c2
      obtain ⟨a3, cap3, rfl, hlc3, hcm3, hnil3, hat3⟩ := hv1
      have hsb2 : s.m b2 = none := by
        cases hx : s.m b2 with
        | none => rfl
        | some y => have := (hws.2 _ _ hx).1; omega
      have hlT : lenT th i = l.length := by unfold lenT; rw [List.getD_eq_getElem?_getD, hl]; rfl
      obtain ⟨b9, c9, sp9, rfl, hc9, m9, l9, _⟩ := hM.oa.has (by omega)
      have g9 := pxs_get (px := a2.px) htn sp9
      have hpi := hpu i (Nat.le_refl _)
      have hki : th.length - i = (th.length - (i + 1)) + 1 := by omega
      rw [hki, roundP] at hPi
      have hany : ((List.range (i + 1)).any fun t => decide (a'.px t < lenT th t)) = (((List.range i).any fun t => decide (a'.px t < lenT th t)) || decide (a2.px i < lenT th i)) := by
        rw [List.range_succ, List.any_append, List.any_cons, List.any_nil, Bool.or_false, hpi]
      by_cases h2 : (l.length : Int) ≤ a2.px i
      · have hT : turnP th a2 i = (a2, false) := by unfold turnP; rw [if_neg (by simp only [Int.toNat_natCast]; omega)]
        have hnl : decide (a2.px i < lenT th i) = false := by rw [decide_eq_false_iff_not]; omega
        rw [hT] at hPi
        rw [hnl, Bool.or_false] at hany
        simp only [Bool.or_false] at hPi
        simp -implicitDefEqProofs (disch := first | omega | (simp only [St.set_n, St.up_n, List.length_cons, List.length_nil]; omega)) only [go_sem, Nat.reduceAdd, Nat.reduceMul, Nat.reduceSub, Int.reduceAdd, Int.reduceMul, Int.reduceSub, Int.reduceNeg, Int.reduceToNat, q0, q1, q2, q9, q10, q11, q16, hlt, hsb2, hbb2, c2, m9, g9, h2]
        exact ⟨_, by omega, _, To.refl _ _, i + 1, a2, .slice (some ⟨b9, 0, none⟩) th.length c9, v10, y, rfl, by omega, ⟨by simp -implicitDefEqProofs (disch := first | omega | (simp only [St.set_n, St.up_n, List.length_cons, List.length_nil]; omega)) only [go_sem, Nat.reduceAdd, Nat.reduceMul, Nat.reduceSub, Int.reduceAdd, Int.reduceMul, Int.reduceSub, Int.reduceNeg, Int.reduceToNat, q0], by simp -implicitDefEqProofs (disch := first | omega | (simp only [St.set_n, St.up_n, List.length_cons, List.length_nil]; omega)) only [go_sem, Nat.reduceAdd, Nat.reduceMul, Nat.reduceSub, Int.reduceAdd, Int.reduceMul, Int.reduceSub, Int.reduceNeg, Int.reduceToNat, q1], by simp -implicitDefEqProofs (disch := first | omega | (simp only [St.set_n, St.up_n, List.length_cons, List.length_nil]; omega)) only [go_sem, Nat.reduceAdd, Nat.reduceMul, Nat.reduceSub, Int.reduceAdd, Int.reduceMul, Int.reduceSub, Int.reduceNeg, Int.reduceToNat, q2], by simp -implicitDefEqProofs (disch := first | omega | (simp only [St.set_n, St.up_n, List.length_cons, List.length_nil]; omega)) only [go_sem, Nat.reduceAdd, Nat.reduceMul, Nat.reduceSub, Int.reduceAdd, Int.reduceMul, Int.reduceSub, Int.reduceNeg, Int.reduceToNat, q9], by simp -implicitDefEqProofs (disch := first | omega | (simp only [St.set_n, St.up_n, List.length_cons, List.length_nil]; omega)) only [go_sem, Nat.reduceAdd, Nat.reduceMul, Nat.reduceSub, Int.reduceAdd, Int.reduceMul, Int.reduceSub, Int.reduceNeg, Int.reduceToNat, q10], by simp -implicitDefEqProofs (disch := first | omega | (simp only [St.set_n, St.up_n, List.length_cons, List.length_nil]; omega)) only [go_sem, Nat.reduceAdd, Nat.reduceMul, Nat.reduceSub, Int.reduceAdd, Int.reduceMul, Int.reduceSub, Int.reduceNeg, Int.reduceToNat, q11], by simp -implicitDefEqProofs (disch := first | omega | (simp only [St.set_n, St.up_n, List.length_cons, List.length_nil]; omega)) only [go_sem, Nat.reduceAdd, Nat.reduceMul, Nat.reduceSub, Int.reduceAdd, Int.reduceMul, Int.reduceSub, Int.reduceNeg, Int.reduceToNat, hd]⟩, ⟨by rw [hany]; simp -implicitDefEqProofs (disch := first | omega | (simp only [St.set_n, St.up_n, List.length_cons, List.length_nil]; omega)) only [go_sem, Nat.reduceAdd, Nat.reduceMul, Nat.reduceSub, Int.reduceAdd, Int.reduceMul, Int.reduceSub, Int.reduceNeg, Int.reduceToNat, q14], by simp -implicitDefEqProofs (disch := first | omega | (simp only [St.set_n, St.up_n, List.length_cons, List.length_nil]; omega)) only [go_sem, Nat.reduceAdd, Nat.reduceMul, Nat.reduceSub, Int.reduceAdd, Int.reduceMul, Int.reduceSub, Int.reduceNeg, Int.reduceToNat, q15]⟩, ⟨by simp -implicitDefEqProofs (disch := first | omega | (simp only [St.set_n, St.up_n, List.length_cons, List.length_nil]; omega)) only [go_sem, Nat.reduceAdd, Nat.reduceMul, Nat.reduceSub, Int.reduceAdd, Int.reduceMul, Int.reduceSub, Int.reduceNeg, Int.reduceToNat]; rfl⟩, hM, hG2d, hPi, fun u hu => hpu u (by omega), by omega⟩
      obtain ⟨z, hz⟩ : ∃ z, l[a2.px i]? = some z := ⟨l[a2.px i]'(by omega), List.getElem?_eq_getElem (by omega)⟩
      obtain ⟨b1, o1, cs1, rfl, hbb1, hRx, hsz1, hcell1⟩ := hat3 _ z hz
      simp only [RIn] at hRx
      subst hRx
      have d0 : B.cell? ⟨b1, o1 + a2.px i * 2, none⟩ = _ := hcell1 0 _ rfl
      have d1 : B.cell? ⟨b1, o1 + a2.px i * 2 + 1, none⟩ = _ := hcell1 1 _ rfl
      have hsb1 : s.m b1 = none := by
        cases hx : s.m b1 with
        | none => rfl
        | some y => have := (hws.2 _ _ hx).1; omega
      have hpx : a2.px i ≤ 60 := by have := hs.l i htn; omega
      have hyi : insT th i (a2.px i) = z := by
        unfold insT
        rw [List.getD_eq_getElem?_getD, List.getD_eq_getElem?_getD, hl]
        show (l[a2.px i]?).getD _ = z
        rw [hz]; rfl
      have hT : turnP th a2 i = (⟨(doA a2.w i (a2.px i) z.1 z.2).1, if (doA a2.w i (a2.px i) z.1 z.2).2 then updAt a2.px i else a2.px, if (doA a2.w i (a2.px i) z.1 z.2).2 then a2.mv ++ [(i : Int)] else a2.mv, a2.ca + 1⟩, (doA a2.w i (a2.px i) z.1 z.2).2) := by
        unfold turnP
        rw [if_pos ⟨by omega, by omega, by simp only [Int.toNat_natCast]; omega⟩]
        simp only [Int.toNat_natCast, actW, hyi]
      have hGt := hG2d.turn i
      have hle := hG2d.le hs
      have hnl : decide (a2.px i < lenT th i) = true := by rw [decide_eq_true_eq]; omega
      rw [hnl, Bool.or_true] at hany
      have hpu2 : ∀ u, i + 1 ≤ u → (turnP th a2 i).1.px u = a'.px u := fun u hu => (turnP_px (by omega)).trans (hpu u (by omega))
      simp -implicitDefEqProofs (disch := first | omega | (simp only [St.set_n, St.up_n, List.length_cons, List.length_nil]; omega)) only [go_sem, Nat.reduceAdd, Nat.reduceMul, Nat.reduceSub, Int.reduceAdd, Int.reduceMul, Int.reduceSub, Int.reduceNeg, Int.reduceToNat, q0, q1, q2, q9, q10, q11, q16, hlt, hsb2, hbb2, c2, m9, g9, h2, hsb1, hbb1, d0, d1]
      refine effD_plan [0, 0, 0, 0, 12, 28, 0, 0, 192, 448, 0, 0, 3072, 7168, 16320, 32704, 65535] [0, 1, 2, 3, 4, 5, 6, 7, 8, 9, 10, 11, 12, 13, 14, 15] (.eag 0 (.eag 1 (.eag 2 (.eag 3 (.eag 4 (.eagq 5 (.eag 6 (.eag 7 (.eag 8 (.eagq 9 (.eag 10 (.eag 11 (.eag 12 (.eagq 13 (.eag 14 (.eagq 15 (.alt 16 [] .fin .stop))))))))))))))))) (by kernel_rfl) ?_
      simp -implicitDefEqProofs (disch := first | omega | (simp only [St.set_n, St.up_n, List.length_cons, List.length_nil]; omega)) only [go_sem, Nat.reduceAdd, Nat.reduceMul, Nat.reduceSub, Int.reduceAdd, Int.reduceMul, Int.reduceSub, Int.reduceNeg, Int.reduceToNat, q0, q1, q2, q9, q10, q11, q16, hlt, hsb2, hbb2, c2, m9, g9, h2, hsb1, hbb1, d0, d1]
      refine callF_wf (wo_do hM.wq (by omega) (by omega) fun k hk => fun hws1 => ?_)
      rw [hT] at hPi hGt hpu2
      have hbq : b9 ≠ q := fun e => by
        have := hM.wq
        rw [← e, m9] at this
        cases this
      cases hok : (doA a2.w i (a2.px i) z.1 z.2).2 with
      | false =>
        rw [hok] at hPi hGt hpu2
        simp only [Bool.false_eq_true, if_false, Bool.or_false] at hPi hGt hpu2
        simp -implicitDefEqProofs (disch := first | omega | (simp only [St.set_n, St.up_n, List.length_cons, List.length_nil]; omega)) only [go_sem, Nat.reduceAdd, Nat.reduceMul, Nat.reduceSub, Int.reduceAdd, Int.reduceMul, Int.reduceSub, Int.reduceNeg, Int.reduceToNat, q16]
        exact ⟨_, by omega, _, To.refl _ _, i + 1, _, .slice (some ⟨b9, 0, none⟩) th.length c9, v10, y, rfl, by omega, ⟨by simp -implicitDefEqProofs (disch := first | omega | (simp only [St.set_n, St.up_n, List.length_cons, List.length_nil]; omega)) only [go_sem, Nat.reduceAdd, Nat.reduceMul, Nat.reduceSub, Int.reduceAdd, Int.reduceMul, Int.reduceSub, Int.reduceNeg, Int.reduceToNat, q0], by simp -implicitDefEqProofs (disch := first | omega | (simp only [St.set_n, St.up_n, List.length_cons, List.length_nil]; omega)) only [go_sem, Nat.reduceAdd, Nat.reduceMul, Nat.reduceSub, Int.reduceAdd, Int.reduceMul, Int.reduceSub, Int.reduceNeg, Int.reduceToNat, q1], by simp -implicitDefEqProofs (disch := first | omega | (simp only [St.set_n, St.up_n, List.length_cons, List.length_nil]; omega)) only [go_sem, Nat.reduceAdd, Nat.reduceMul, Nat.reduceSub, Int.reduceAdd, Int.reduceMul, Int.reduceSub, Int.reduceNeg, Int.reduceToNat, q2], by simp -implicitDefEqProofs (disch := first | omega | (simp only [St.set_n, St.up_n, List.length_cons, List.length_nil]; omega)) only [go_sem, Nat.reduceAdd, Nat.reduceMul, Nat.reduceSub, Int.reduceAdd, Int.reduceMul, Int.reduceSub, Int.reduceNeg, Int.reduceToNat, q9], by simp -implicitDefEqProofs (disch := first | omega | (simp only [St.set_n, St.up_n, List.length_cons, List.length_nil]; omega)) only [go_sem, Nat.reduceAdd, Nat.reduceMul, Nat.reduceSub, Int.reduceAdd, Int.reduceMul, Int.reduceSub, Int.reduceNeg, Int.reduceToNat, q10], by simp -implicitDefEqProofs (disch := first | omega | (simp only [St.set_n, St.up_n, List.length_cons, List.length_nil]; omega)) only [go_sem, Nat.reduceAdd, Nat.reduceMul, Nat.reduceSub, Int.reduceAdd, Int.reduceMul, Int.reduceSub, Int.reduceNeg, Int.reduceToNat]; rfl, by simp -implicitDefEqProofs (disch := first | omega | (simp only [St.set_n, St.up_n, List.length_cons, List.length_nil]; omega)) only [go_sem, Nat.reduceAdd, Nat.reduceMul, Nat.reduceSub, Int.reduceAdd, Int.reduceMul, Int.reduceSub, Int.reduceNeg, Int.reduceToNat, hd]⟩, ⟨by rw [hany]; simp -implicitDefEqProofs (disch := first | omega | (simp only [St.set_n, St.up_n, List.length_cons, List.length_nil]; omega)) only [go_sem, Nat.reduceAdd, Nat.reduceMul, Nat.reduceSub, Int.reduceAdd, Int.reduceMul, Int.reduceSub, Int.reduceNeg, Int.reduceToNat], by simp -implicitDefEqProofs (disch := first | omega | (simp only [St.set_n, St.up_n, List.length_cons, List.length_nil]; omega)) only [go_sem, Nat.reduceAdd, Nat.reduceMul, Nat.reduceSub, Int.reduceAdd, Int.reduceMul, Int.reduceSub, Int.reduceNeg, Int.reduceToNat, q15]⟩, ⟨by simp -implicitDefEqProofs (disch := first | omega | (simp only [St.set_n, St.up_n, List.length_cons, List.length_nil]; omega)) only [go_sem, Nat.reduceAdd, Nat.reduceMul, Nat.reduceSub, Int.reduceAdd, Int.reduceMul, Int.reduceSub, Int.reduceNeg, Int.reduceToNat]; rfl⟩, hM.call _ hk, hGt, hPi, hpu2, by simp only; omega⟩
      | true =>
        rw [hok] at hPi hGt hpu2
        simp only [if_true, Bool.or_true] at hPi hGt hpu2
        have hM1 := hM.call (doA a2.w i (a2.px i) z.1 z.2).1 hk
        have m91 : ((s.set q (.comp (WoR (doA a2.w i (a2.px i) z.1 z.2).1 q))).up k).m b9 = some (.raw (.cells (pxs a2.px th.length ++ sp9).toArray 3 (0, 0))) := by simp -implicitDefEqProofs (disch := first | omega | (simp only [St.set_n, St.up_n, List.length_cons, List.length_nil]; omega)) only [go_sem, Nat.reduceAdd, Nat.reduceMul, Nat.reduceSub, Int.reduceAdd, Int.reduceMul, Int.reduceSub, Int.reduceNeg, Int.reduceToNat, m9]
        have hkn : ((s.set q (.comp (WoR (doA a2.w i (a2.px i) z.1 z.2).1 q))).up k).n = k := rfl
        generalize (s.set q (.comp (WoR (doA a2.w i (a2.px i) z.1 z.2).1 q))).up k = s1 at hM1 m91 hkn hws1 ⊢
        subst hkn
        obtain ⟨A10, c10, rfl, _⟩ := hM.om.is
        simp -implicitDefEqProofs (disch := first | omega | (simp only [St.set_n, St.up_n, List.length_cons, List.length_nil]; omega)) only [go_sem, Nat.reduceAdd, Nat.reduceMul, Nat.reduceSub, Int.reduceAdd, Int.reduceMul, Int.reduceSub, Int.reduceNeg, Int.reduceToNat, q10, q16]
        refine appE hws1 hM1.om se28 kd28 zr3 rfl (by omega) (ys := [.int .i64 i]) rfl rfl (by omega) fun A' C' s2 hC' o2 heq hb1 hn2 hws2 => ?_
        have hb9n := (hws1.2 _ _ m91).2
        have m92 := (heq b9 hb9n fun e => (hM1.nb b9 e).2 rfl).trans m91
        have st := pxs_set (px := a2.px) htn sp9
        simp -implicitDefEqProofs (disch := first | omega | (simp only [St.set_n, St.up_n, List.length_cons, List.length_nil]; omega)) only [go_sem, Nat.reduceAdd, Nat.reduceMul, Nat.reduceSub, Int.reduceAdd, Int.reduceMul, Int.reduceSub, Int.reduceNeg, Int.reduceToNat, q9, q16, m92, g9, st, htn]
        exact ⟨_, by omega, _, To.refl _ _, i + 1, _, .slice (some ⟨b9, 0, none⟩) th.length c9, _, true, rfl, by omega, ⟨by simp -implicitDefEqProofs (disch := first | omega | (simp only [St.set_n, St.up_n, List.length_cons, List.length_nil]; omega)) only [go_sem, Nat.reduceAdd, Nat.reduceMul, Nat.reduceSub, Int.reduceAdd, Int.reduceMul, Int.reduceSub, Int.reduceNeg, Int.reduceToNat, q0], by simp -implicitDefEqProofs (disch := first | omega | (simp only [St.set_n, St.up_n, List.length_cons, List.length_nil]; omega)) only [go_sem, Nat.reduceAdd, Nat.reduceMul, Nat.reduceSub, Int.reduceAdd, Int.reduceMul, Int.reduceSub, Int.reduceNeg, Int.reduceToNat, q1], by simp -implicitDefEqProofs (disch := first | omega | (simp only [St.set_n, St.up_n, List.length_cons, List.length_nil]; omega)) only [go_sem, Nat.reduceAdd, Nat.reduceMul, Nat.reduceSub, Int.reduceAdd, Int.reduceMul, Int.reduceSub, Int.reduceNeg, Int.reduceToNat, q2], by simp -implicitDefEqProofs (disch := first | omega | (simp only [St.set_n, St.up_n, List.length_cons, List.length_nil]; omega)) only [go_sem, Nat.reduceAdd, Nat.reduceMul, Nat.reduceSub, Int.reduceAdd, Int.reduceMul, Int.reduceSub, Int.reduceNeg, Int.reduceToNat, q9], by first | (simp -implicitDefEqProofs (disch := first | omega | (simp only [St.set_n, St.up_n, List.length_cons, List.length_nil]; omega)) only [go_sem, Nat.reduceAdd, Nat.reduceMul, Nat.reduceSub, Int.reduceAdd, Int.reduceMul, Int.reduceSub, Int.reduceNeg, Int.reduceToNat]; done) | (simp -implicitDefEqProofs (disch := first | omega | (simp only [St.set_n, St.up_n, List.length_cons, List.length_nil]; omega)) only [go_sem, Nat.reduceAdd, Nat.reduceMul, Nat.reduceSub, Int.reduceAdd, Int.reduceMul, Int.reduceSub, Int.reduceNeg, Int.reduceToNat]; rfl), by first | (simp -implicitDefEqProofs (disch := first | omega | (simp only [St.set_n, St.up_n, List.length_cons, List.length_nil]; omega)) only [go_sem, Nat.reduceAdd, Nat.reduceMul, Nat.reduceSub, Int.reduceAdd, Int.reduceMul, Int.reduceSub, Int.reduceNeg, Int.reduceToNat]; done) | (simp -implicitDefEqProofs (disch := first | omega | (simp only [St.set_n, St.up_n, List.length_cons, List.length_nil]; omega)) only [go_sem, Nat.reduceAdd, Nat.reduceMul, Nat.reduceSub, Int.reduceAdd, Int.reduceMul, Int.reduceSub, Int.reduceNeg, Int.reduceToNat]; rfl), by simp -implicitDefEqProofs (disch := first | omega | (simp only [St.set_n, St.up_n, List.length_cons, List.length_nil]; omega)) only [go_sem, Nat.reduceAdd, Nat.reduceMul, Nat.reduceSub, Int.reduceAdd, Int.reduceMul, Int.reduceSub, Int.reduceNeg, Int.reduceToNat, hd]⟩, ⟨by rw [hany]; simp -implicitDefEqProofs (disch := first | omega | (simp only [St.set_n, St.up_n, List.length_cons, List.length_nil]; omega)) only [go_sem, Nat.reduceAdd, Nat.reduceMul, Nat.reduceSub, Int.reduceAdd, Int.reduceMul, Int.reduceSub, Int.reduceNeg, Int.reduceToNat], by simp -implicitDefEqProofs (disch := first | omega | (simp only [St.set_n, St.up_n, List.length_cons, List.length_nil]; omega)) only [go_sem, Nat.reduceAdd, Nat.reduceMul, Nat.reduceSub, Int.reduceAdd, Int.reduceMul, Int.reduceSub, Int.reduceNeg, Int.reduceToNat]⟩, ⟨by simp -implicitDefEqProofs (disch := first | omega | (simp only [St.set_n, St.up_n, List.length_cons, List.length_nil]; omega)) only [go_sem, Nat.reduceAdd, Nat.reduceMul, Nat.reduceSub, Int.reduceAdd, Int.reduceMul, Int.reduceSub, Int.reduceNeg, Int.reduceToNat]; rfl⟩, hM1.did m91 hc9 l9 hws1 o2 heq hb1 hn2 hws2, hGt, hPi, hpu2, by simp only; omega⟩
    · have hie : i = th.length := by omega
      subst hie
      rw [Nat.sub_self, roundP] at hPi
      simp -implicitDefEqProofs (disch := first | omega | (simp only [St.set_n, St.up_n, List.length_cons, List.length_nil]; omega)) only [go_sem, Nat.reduceAdd, Nat.reduceMul, Nat.reduceSub, Int.reduceAdd, Int.reduceMul, Int.reduceSub, Int.reduceNeg, Int.reduceToNat, q1, q16, hlt]
      exact ⟨_, To.refl _ _, a2, v9, v10, y, ⟨by simp -implicitDefEqProofs (disch := first | omega | (simp only [St.set_n, St.up_n, List.length_cons, List.length_nil]; omega)) only [go_sem, Nat.reduceAdd, Nat.reduceMul, Nat.reduceSub, Int.reduceAdd, Int.reduceMul, Int.reduceSub, Int.reduceNeg, Int.reduceToNat, q0], by simp -implicitDefEqProofs (disch := first | omega | (simp only [St.set_n, St.up_n, List.length_cons, List.length_nil]; omega)) only [go_sem, Nat.reduceAdd, Nat.reduceMul, Nat.reduceSub, Int.reduceAdd, Int.reduceMul, Int.reduceSub, Int.reduceNeg, Int.reduceToNat, q1], by simp -implicitDefEqProofs (disch := first | omega | (simp only [St.set_n, St.up_n, List.length_cons, List.length_nil]; omega)) only [go_sem, Nat.reduceAdd, Nat.reduceMul, Nat.reduceSub, Int.reduceAdd, Int.reduceMul, Int.reduceSub, Int.reduceNeg, Int.reduceToNat, q2], by simp -implicitDefEqProofs (disch := first | omega | (simp only [St.set_n, St.up_n, List.length_cons, List.length_nil]; omega)) only [go_sem, Nat.reduceAdd, Nat.reduceMul, Nat.reduceSub, Int.reduceAdd, Int.reduceMul, Int.reduceSub, Int.reduceNeg, Int.reduceToNat, q9], by simp -implicitDefEqProofs (disch := first | omega | (simp only [St.set_n, St.up_n, List.length_cons, List.length_nil]; omega)) only [go_sem, Nat.reduceAdd, Nat.reduceMul, Nat.reduceSub, Int.reduceAdd, Int.reduceMul, Int.reduceSub, Int.reduceNeg, Int.reduceToNat, q10], by simp -implicitDefEqProofs (disch := first | omega | (simp only [St.set_n, St.up_n, List.length_cons, List.length_nil]; omega)) only [go_sem, Nat.reduceAdd, Nat.reduceMul, Nat.reduceSub, Int.reduceAdd, Int.reduceMul, Int.reduceSub, Int.reduceNeg, Int.reduceToNat, q11], by simp -implicitDefEqProofs (disch := first | omega | (simp only [St.set_n, St.up_n, List.length_cons, List.length_nil]; omega)) only [go_sem, Nat.reduceAdd, Nat.reduceMul, Nat.reduceSub, Int.reduceAdd, Int.reduceMul, Int.reduceSub, Int.reduceNeg, Int.reduceToNat, hd]⟩, ⟨by simp -implicitDefEqProofs (disch := first | omega | (simp only [St.set_n, St.up_n, List.length_cons, List.length_nil]; omega)) only [go_sem, Nat.reduceAdd, Nat.reduceMul, Nat.reduceSub, Int.reduceAdd, Int.reduceMul, Int.reduceSub, Int.reduceNeg, Int.reduceToNat, q14]; rfl, by simp -implicitDefEqProofs (disch := first | omega | (simp only [St.set_n, St.up_n, List.length_cons, List.length_nil]; omega)) only [go_sem, Nat.reduceAdd, Nat.reduceMul, Nat.reduceSub, Int.reduceAdd, Int.reduceMul, Int.reduceSub, Int.reduceNeg, Int.reduceToNat, q15]⟩, hM, hG2d, hPi.symm⟩
  · clear q0 q1 q2 q9 q10 q11 hd hM hws
    rintro e s hws ⟨a2, v9, v10, y, ⟨q0, q1, q2, q9, q10, q11, hd⟩, ⟨q14, q15⟩, hM, hG2d, hPi⟩
    have hmv := roundP_mv (th := th) th.length a' 0 false
    rw [hPi] at hR
    simp only [hPi] at hmv
    obtain ⟨A10, c10, rfl, _⟩ := hM.om.is
    refine SemS.wp fun _ => ?_
    cases hlf : leftP th a'.px with
    | false =>
      rw [hlf] at q14 hR
      have := round_no hlf th.length 0 false
      rw [hPi] at this
      cases this
      simp only [Bool.false_eq_true, if_false] at hR
      subst hR
      simp -implicitDefEqProofs (disch := first | omega | (simp only [St.set_n, St.up_n, List.length_cons, List.length_nil]; omega)) only [go_sem, Nat.reduceAdd, Nat.reduceMul, Nat.reduceSub, Int.reduceAdd, Int.reduceMul, Int.reduceSub, Int.reduceNeg, Int.reduceToNat, q10, q11, q14, hd]
      exact ⟨_, To.refl _ _, hK _ _ hM.om hM.wq (fun b hb => (hM.nb b hb).1) hM.old hM.n⟩
    | true =>
      rw [hlf] at q14 hR
      simp only [if_true] at hR
      cases y with
      | false =>
        simp only [Bool.false_eq_true, if_false] at hR
        subst hR
        simp -implicitDefEqProofs (disch := first | omega | (simp only [St.set_n, St.up_n, List.length_cons, List.length_nil]; omega)) only [go_sem, Nat.reduceAdd, Nat.reduceMul, Nat.reduceSub, Int.reduceAdd, Int.reduceMul, Int.reduceSub, Int.reduceNeg, Int.reduceToNat, q10, q11, q14, q15, hd]
        exact ⟨_, To.refl _ _, hK _ _ hM.om hM.wq (fun b hb => (hM.nb b hb).1) hM.old hM.n⟩
      | true =>
        simp only [if_true] at hR
        have hlt2 := (hmv.2.1 rfl).resolve_left (by simp)
        have hmv3 := hmv.2.2
        have hle2 := (hG2d.le hs).1
        simp -implicitDefEqProofs (disch := first | omega | (simp only [St.set_n, St.up_n, List.length_cons, List.length_nil]; omega)) only [go_sem, Nat.reduceAdd, Nat.reduceMul, Nat.reduceSub, Int.reduceAdd, Int.reduceMul, Int.reduceSub, Int.reduceNeg, Int.reduceToNat, q10, q11, q14, q15, hd]
        exact ⟨_, by omega, _, To.refl _ _, k', a2, v9, _, rfl, by omega, ⟨by simp -implicitDefEqProofs (disch := first | omega | (simp only [St.set_n, St.up_n, List.length_cons, List.length_nil]; omega)) only [go_sem, Nat.reduceAdd, Nat.reduceMul, Nat.reduceSub, Int.reduceAdd, Int.reduceMul, Int.reduceSub, Int.reduceNeg, Int.reduceToNat, q0], by simp -implicitDefEqProofs (disch := first | omega | (simp only [St.set_n, St.up_n, List.length_cons, List.length_nil]; omega)) only [go_sem, Nat.reduceAdd, Nat.reduceMul, Nat.reduceSub, Int.reduceAdd, Int.reduceMul, Int.reduceSub, Int.reduceNeg, Int.reduceToNat, q1], by simp -implicitDefEqProofs (disch := first | omega | (simp only [St.set_n, St.up_n, List.length_cons, List.length_nil]; omega)) only [go_sem, Nat.reduceAdd, Nat.reduceMul, Nat.reduceSub, Int.reduceAdd, Int.reduceMul, Int.reduceSub, Int.reduceNeg, Int.reduceToNat, q2], by simp -implicitDefEqProofs (disch := first | omega | (simp only [St.set_n, St.up_n, List.length_cons, List.length_nil]; omega)) only [go_sem, Nat.reduceAdd, Nat.reduceMul, Nat.reduceSub, Int.reduceAdd, Int.reduceMul, Int.reduceSub, Int.reduceNeg, Int.reduceToNat, q9], by simp -implicitDefEqProofs (disch := first | omega | (simp only [St.set_n, St.up_n, List.length_cons, List.length_nil]; omega)) only [go_sem, Nat.reduceAdd, Nat.reduceMul, Nat.reduceSub, Int.reduceAdd, Int.reduceMul, Int.reduceSub, Int.reduceNeg, Int.reduceToNat, q10], by simp -implicitDefEqProofs (disch := first | omega | (simp only [St.set_n, St.up_n, List.length_cons, List.length_nil]; omega)) only [go_sem, Nat.reduceAdd, Nat.reduceMul, Nat.reduceSub, Int.reduceAdd, Int.reduceMul, Int.reduceSub, Int.reduceNeg, Int.reduceToNat, q11], by simp -implicitDefEqProofs (disch := first | omega | (simp only [St.set_n, St.up_n, List.length_cons, List.length_nil]; omega)) only [go_sem, Nat.reduceAdd, Nat.reduceMul, Nat.reduceSub, Int.reduceAdd, Int.reduceMul, Int.reduceSub, Int.reduceNeg, Int.reduceToNat, hd]⟩, hM, hG2d, hR, by omega⟩
end
end Go.Proofs.Ytgcojbgkenndhaa
