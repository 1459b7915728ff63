/- 'EpochPlays': the walk. -/
import Derived.Test.YtgcojbgkenndhaaERef
import Derived.Test.YtgcojbgkenndhaaLaw09
namespace Go.Proofs.Ytgcojbgkenndhaa
set_option linter.unusedSimpArgs false
set_option linter.unusedVariables false
set_option maxRecDepth 100000
open Go Go.RowKit

/-! ### The lists of the program, by the one list -/
def lim (Z : List (Int × Int)) (j : Nat) : List Int := (Z.filter fun z => decide (z.2 % 3 = (j : Int))).map fun z => z.1
structure LK (S : ES) (Z : List (Int × Int)) : Prop where
  rng : ∀ z ∈ Z, (S.now : Int) - 2 ≤ z.2 ∧ z.2 ≤ S.now
  e0 : S.l0 = lim Z 0
  e1 : S.l1 = lim Z 1
  e2 : S.l2 = lim Z 2
theorem LK.get {S : ES} {Z : List (Int × Int)} (h : LK S Z) {j : Nat} (hj : j < 3) : S.get j = lim Z j := by
  have : j = 0 ∨ j = 1 ∨ j = 2 := by omega
  rcases this with rfl | rfl | rfl
  · exact h.e0
  · exact h.e1
  · exact h.e2
theorem lim_snoc (Z : List (Int × Int)) (z : Int × Int) (j : Nat) : lim (Z ++ [z]) j = if z.2 % 3 = (j : Int) then lim Z j ++ [z.1] else lim Z j := by
  unfold lim; by_cases h : z.2 % 3 = (j : Int) <;> simp [List.filter_append, h]
theorem lim_sum (Z : List (Int × Int)) : (lim Z 0).length + (lim Z 1).length + (lim Z 2).length = Z.length := by
  induction Z with
  | nil => rfl
  | cons z Z ih =>
    have h : ∀ j : Nat, (lim (z :: Z) j).length = (lim Z j).length + if z.2 % 3 = (j : Int) then 1 else 0 := fun j => by
      unfold lim
      by_cases h : z.2 % 3 = (j : Int) <;> simp [h]
    rw [h, h, h]
    have : z.2 % 3 = 0 ∨ z.2 % 3 = 1 ∨ z.2 % 3 = 2 := by omega
    simp only [List.length_cons]
    rcases this with h | h | h <;> simp [h] <;> omega
theorem put_get {S : ES} {j i : Nat} {l : List Int} (hj : j < 3) (hi : i < 3) : (S.put j l).get i = if i = j then l else S.get i := by
  have h1 : j = 0 ∨ j = 1 ∨ j = 2 := by omega
  have h2 : i = 0 ∨ i = 1 ∨ i = 2 := by omega
  rcases h1 with rfl | rfl | rfl <;> rcases h2 with rfl | rfl | rfl <;> rfl
theorem put_now {S : ES} {j : Nat} {l : List Int} : (S.put j l).now = S.now := by
  unfold ES.put; split <;> rfl
theorem put_pin {S : ES} {j : Nat} {l : List Int} : (S.put j l).pin = S.pin := by
  unfold ES.put; split <;> rfl
theorem LK.of {S : ES} {Z : List (Int × Int)} (h : ∀ z ∈ Z, (S.now : Int) - 2 ≤ z.2 ∧ z.2 ≤ S.now) (he : ∀ j, j < 3 → S.get j = lim Z j) : LK S Z := ⟨h, he 0 (by omega), he 1 (by omega), he 2 (by omega)⟩
theorem LK.retire {S : ES} {Z : List (Int × Int)} (h : LK S Z) (x : Int) : LK (S.put (S.now % 3) (S.get (S.now % 3) ++ [x])) (Z ++ [(x, (S.now : Int))]) := by
  have hj : S.now % 3 < 3 := by omega
  refine LK.of (fun z hz => ?_) fun i hi => ?_
  · rw [put_now]
    rcases List.mem_append.1 hz with hz | hz
    · exact h.rng z hz
    · simp only [List.mem_singleton] at hz; subst hz; simp only; omega
  · rw [put_get hj hi, lim_snoc]
    by_cases e : i = S.now % 3
    · subst e
      rw [if_pos rfl, if_pos (by simp only; omega), h.get hj]
    · rw [if_neg e, if_neg (by simp only; omega), h.get hi]
theorem gone_lim {S : ES} {Z : List (Int × Int)} (h : LK S Z) : gone ((S.now : Int) + 1) Z = S.get ((S.now + 1) % 3) := by
  rw [h.get (by omega)]
  unfold gone lim
  congr 1
  refine List.filter_congr fun z hz => ?_
  have := h.rng z hz
  rw [decide_eq_decide]
  omega
theorem LK.advance {S : ES} {Z : List (Int × Int)} (h : LK S Z) : LK ({ S with now := S.now + 1 }.put ((S.now + 1) % 3) []) (stay ((S.now : Int) + 1) Z) := by
  have hj : (S.now + 1) % 3 < 3 := by omega
  refine LK.of (fun z hz => ?_) fun i hi => ?_
  · rw [put_now]
    unfold stay at hz
    obtain ⟨h1, h2⟩ := List.mem_filter.1 hz
    have := h.rng z h1
    simp only [Bool.not_eq_true', decide_eq_false_iff_not] at h2
    simp only
    omega
  · rw [put_get hj hi]
    have hcl : ({ S with now := S.now + 1 } : ES).get i = S.get i := by
      have h2 : i = 0 ∨ i = 1 ∨ i = 2 := by omega
      rcases h2 with rfl | rfl | rfl <;> rfl
    rw [hcl, h.get hi]
    unfold lim stay
    rw [List.filter_filter]
    by_cases e : i = (S.now + 1) % 3
    · rw [if_pos e]
      symm
      rw [List.map_eq_nil_iff, List.filter_eq_nil_iff]
      intro z hz
      have := h.rng z hz
      simp only [Bool.and_eq_true, decide_eq_true_eq, Bool.not_eq_true', decide_eq_false_iff_not]
      omega
    · rw [if_neg e]
      congr 1
      refine List.filter_congr fun z hz => ?_
      have := h.rng z hz
      rw [Bool.eq_iff_iff]
      simp only [Bool.and_eq_true, decide_eq_true_eq, Bool.not_eq_true', decide_eq_false_iff_not]
      omega
section
variable {B : World} {σ : St} {K : Value → St → Prop}
theorem IsER.has {p : Nat} {w1 w2 w3 : Value} {now : Int} {pin : List Int} {Z : List (Int × Int)} (h : IsER σ p w1 w2 w3 now pin Z) {c : Nat} (hc : Foot p w1 w2 w3 c) : ∃ y, σ.m c = some y := by
  rcases hc with rfl | hc | hc | hc
  · exact ⟨_, h.root⟩
  · obtain ⟨o, ho⟩ := h.o1.at_ hc; exact ⟨_, ho⟩
  · obtain ⟨o, ho⟩ := h.o2.at_ hc; exact ⟨_, ho⟩
  · obtain ⟨o, ho⟩ := h.o3.at_ hc; exact ⟨_, ho⟩
theorem wfLow (h : σ.wf B) {b : Nat} (hb : b < B.heap.size) : σ.m b = none := by
  cases hm : σ.m b with
  | none => rfl
  | some x => have := (h.2 b x hm).1; omega
def RDeed (x : Int × Int) (cs : List Value) : Prop := cs = [.int .i64 x.1, .int .i64 x.2]
structure EE (a : Option Addr) (N cap q p i : Nat) (e : Fr) : Prop where
  v1 : e.v 1 = .slice a N cap
  v5 : e.v 5 = .pointer (some ⟨q, 0, none⟩)
  v6 : e.v 6 = .pointer (some ⟨p, 0, none⟩)
  v7 : e.v 7 = .int .i64 i
  d : e.d = []
structure SE (σ : St) (q p : Nat) (S : ES) (Z : List (Int × Int)) (w1 w2 w3 : Value) (i : Nat) (s : St) : Prop where
  ep : s.m q = some (.comp (EpR S q))
  er : IsER s p w1 w2 w3 S.now S.pin Z
  lk : LK S Z
  foot : ∀ c, Foot p w1 w2 w3 c → σ.n ≤ c ∧ c ≠ q
  q1 : σ.n ≤ q
  q2 : q < s.n
  old : ∀ c x, c < σ.n → σ.m c = some x → s.m c = some x
  nowi : S.now ≤ i
  zi : Z.length ≤ i
  pl : S.pin.length ≤ 64
structure MK (σ : St) (a : Option Addr) (N cap q p i : Nat) (e : Fr) (s : St) : Prop where
  ee : EE a N cap q p i e
  se : ∃ (S : ES) (Z : List (Int × Int)) (w1 w2 w3 : Value), SE σ q p S Z w1 w2 w3 (i + 1) s
theorem SE.step {q p i : Nat} {S S' : ES} {Z Z' : List (Int × Int)} {w1 w2 w3 w1' w2' w3' : Value} {s s1 τ : St} (h : SE σ q p S Z w1 w2 w3 i s) (hq : s1.m q = some (.comp (EpR S' q))) (hk : ∀ c x, c ≠ q → s.m c = some x → s1.m c = some x) (hn : s.n ≤ s1.n)
    (hR : IsER τ p w1' w2' w3' S'.now S'.pin Z') (hk2 : ∀ c y, ¬ Foot p w1 w2 w3 c → s1.m c = some y → τ.m c = some y) (hf : ∀ c, Foot p w1' w2' w3' c → s1.n ≤ c ∨ Foot p w1 w2 w3 c) (hn2 : s1.n ≤ τ.n)
    (hl : LK S' Z') (h1 : S'.now ≤ i + 1) (h2 : Z'.length ≤ i + 1) (h3 : S'.pin.length ≤ 64) : SE σ q p S' Z' w1' w2' w3' (i + 1) τ := by
  have hq2 := h.q2
  have hq1 := h.q1
  refine ⟨hk2 _ _ (fun e => (h.foot _ e).2 rfl) hq, hR, hl, fun c hc => ?_, h.q1, by omega, fun c x hc hx => hk2 _ _ (fun e => ?_) (hk _ _ (by omega) (h.old c x hc hx)), h1, h2, h3⟩
  · rcases hf c hc with h' | h'
    · omega
    · exact h.foot c h'
  · have := (h.foot c e).1; omega
theorem SE.er1 {q p i : Nat} {S : ES} {Z : List (Int × Int)} {w1 w2 w3 : Value} {s s1 : St} (h : SE σ q p S Z w1 w2 w3 i s) (hk : ∀ c x, c ≠ q → s.m c = some x → s1.m c = some x) : IsER s1 p w1 w2 w3 S.now S.pin Z :=
  h.er.keep fun c x hc hx => hk c x (h.foot c hc).2 hx
set_option maxHeartbeats 4000000 in
theorem plays09 {th : Int} {l : List (Int × Int)} {v : Value} (hl : SlR B 2 RDeed l v) (hK : ∀ k, σ.n ≤ k → K (.bool true) (σ.up k)) : Fn Try.prog B 4 #[.int .i64 th, v] σ K := by
  obtain ⟨a, cap, rfl, hlc, hcm, hnil, hat⟩ := hl
  refine Fn.of' is4 (by simp) fun hwf => ?_
  have hB := hwf.1
  simp only [b4, Try.f4, Option.getD_some]
  simp -implicitDefEqProofs (disch := first | omega | (simp only [St.set_n, St.up_n, List.length_cons, List.length_nil]; omega)) only [go_sem, Nat.reduceAdd, Nat.reduceMul, Nat.reduceSub, Int.reduceAdd, Int.reduceMul, Int.reduceSub, Int.reduceNeg, Int.reduceToNat]
  refine callF_of (awake09 fun k hk => ?_)
  simp -implicitDefEqProofs (disch := first | omega | (simp only [St.set_n, St.up_n, List.length_cons, List.length_nil]; omega)) only [go_sem, Nat.reduceAdd, Nat.reduceMul, Nat.reduceSub, Int.reduceAdd, Int.reduceMul, Int.reduceSub, Int.reduceNeg, Int.reduceToNat]
  by_cases h300 : (300 : Int) < l.length
  · simp -implicitDefEqProofs (disch := first | omega | (simp only [St.set_n, St.up_n, List.length_cons, List.length_nil]; omega)) only [go_sem, Nat.reduceAdd, Nat.reduceMul, Nat.reduceSub, Int.reduceAdd, Int.reduceMul, Int.reduceSub, Int.reduceNeg, Int.reduceToNat, h300]
    exact ⟨_, To.same (fun d y h2 h3 => by simp -implicitDefEqProofs (disch := first | omega | (simp only [St.set_n, St.up_n, List.length_cons, List.length_nil]; omega)) only [go_sem, Nat.reduceAdd, Nat.reduceMul, Nat.reduceSub, Int.reduceAdd, Int.reduceMul, Int.reduceSub, Int.reduceNeg, Int.reduceToNat, h3]) hwf, hK _ (by simp only [St.up_n]; omega)⟩
  simp -implicitDefEqProofs (disch := first | omega | (simp only [St.set_n, St.up_n, List.length_cons, List.length_nil]; omega)) only [go_sem, Nat.reduceAdd, Nat.reduceMul, Nat.reduceSub, Int.reduceAdd, Int.reduceMul, Int.reduceSub, Int.reduceNeg, Int.reduceToNat, h300]
  obtain ⟨n, hn⟩ : ∃ n : Nat, max (min th 64) 0 = (n : Int) := ⟨(max (min th 64) 0).toNat, by omega⟩
  refine callF_of (ep_new hn fun k1 hk1 => ?_)
  simp only [St.up_n] at hk1
  simp -implicitDefEqProofs (disch := first | omega | (simp only [St.set_n, St.up_n, List.length_cons, List.length_nil]; omega)) only [go_sem, Nat.reduceAdd, Nat.reduceMul, Nat.reduceSub, Int.reduceAdd, Int.reduceMul, Int.reduceSub, Int.reduceNeg, Int.reduceToNat]
  refine callF_of (er_new hn fun τ1 w1 hE hold1 hw1 hn1 => ?_)
  simp only [St.up_n] at hE hold1 hw1 hn1
  simp -implicitDefEqProofs (disch := first | omega | (simp only [St.set_n, St.up_n, List.length_cons, List.length_nil]; omega)) only [go_sem, Nat.reduceAdd, Nat.reduceMul, Nat.reduceSub, Int.reduceAdd, Int.reduceMul, Int.reduceSub, Int.reduceNeg, Int.reduceToNat]
  have hSE : SE σ k k1 { now := 0, pin := List.replicate n (-1), l0 := [], l1 := [], l2 := [] } [] w1 (.slice none 0 0) (.slice none 0 0) 0 τ1 := by
    refine ⟨hold1 _ _ (by omega) (by simp -implicitDefEqProofs (disch := first | omega | (simp only [St.set_n, St.up_n, List.length_cons, List.length_nil]; omega)) only [go_sem, Nat.reduceAdd, Nat.reduceMul, Nat.reduceSub, Int.reduceAdd, Int.reduceMul, Int.reduceSub, Int.reduceNeg, Int.reduceToNat]), hE, LK.of (fun z hz => (by cases hz)) (fun j hj => ?_), fun c hc => ?_, by omega, by omega, fun c x hc hx => hold1 c x (by omega) (by simp -implicitDefEqProofs (disch := first | omega | (simp only [St.set_n, St.up_n, List.length_cons, List.length_nil]; omega)) only [go_sem, Nat.reduceAdd, Nat.reduceMul, Nat.reduceSub, Int.reduceAdd, Int.reduceMul, Int.reduceSub, Int.reduceNeg, Int.reduceToNat, hx]), Nat.le_refl _, Nat.le_refl _, by simp; omega⟩
    · have h2 : j = 0 ∨ j = 1 ∨ j = 2 := by omega
      rcases h2 with rfl | rfl | rfl <;> rfl
    · rcases hc with hc | hc | hc | hc
      · omega
      · have := hw1 c hc; omega
      · cases hc
      · cases hc
  clear hE hold1 hw1 hn1
  refine LoopS.of (SemS.loop (fun m e s => ∃ (i : Nat) (S : ES) (Z : List (Int × Int)) (w1 w2 w3 : Value), m = l.length - i ∧ i ≤ l.length ∧ EE a l.length cap k k1 i e ∧ SE σ k k1 S Z w1 w2 w3 i s) l.length ?_ ?_)
  · exact ⟨0, _, _, _, _, _, by omega, by omega, ⟨by simp -implicitDefEqProofs (disch := first | omega | (simp only [St.set_n, St.up_n, List.length_cons, List.length_nil]; omega)) only [go_sem, Nat.reduceAdd, Nat.reduceMul, Nat.reduceSub, Int.reduceAdd, Int.reduceMul, Int.reduceSub, Int.reduceNeg, Int.reduceToNat], by simp -implicitDefEqProofs (disch := first | omega | (simp only [St.set_n, St.up_n, List.length_cons, List.length_nil]; omega)) only [go_sem, Nat.reduceAdd, Nat.reduceMul, Nat.reduceSub, Int.reduceAdd, Int.reduceMul, Int.reduceSub, Int.reduceNeg, Int.reduceToNat], by simp -implicitDefEqProofs (disch := first | omega | (simp only [St.set_n, St.up_n, List.length_cons, List.length_nil]; omega)) only [go_sem, Nat.reduceAdd, Nat.reduceMul, Nat.reduceSub, Int.reduceAdd, Int.reduceMul, Int.reduceSub, Int.reduceNeg, Int.reduceToNat], by simp -implicitDefEqProofs (disch := first | omega | (simp only [St.set_n, St.up_n, List.length_cons, List.length_nil]; omega)) only [go_sem, Nat.reduceAdd, Nat.reduceMul, Nat.reduceSub, Int.reduceAdd, Int.reduceMul, Int.reduceSub, Int.reduceNeg, Int.reduceToNat]; rfl, by simp -implicitDefEqProofs (disch := first | omega | (simp only [St.set_n, St.up_n, List.length_cons, List.length_nil]; omega)) only [go_sem, Nat.reduceAdd, Nat.reduceMul, Nat.reduceSub, Int.reduceAdd, Int.reduceMul, Int.reduceSub, Int.reduceNeg, Int.reduceToNat]⟩, hSE⟩
  · clear hSE
    rintro m e s hws ⟨i, S, Z, w1, w2, w3, hm, hi, ⟨q1, q5, q6, q7, hd⟩, hF⟩
    by_cases hlt : (i : Int) < l.length
    · obtain ⟨⟨kd, x⟩, hacc⟩ : ∃ x, l[i]? = some x := ⟨l[i]'(by omega), List.getElem?_eq_getElem (by omega)⟩
      obtain ⟨b, o, cs, rfl, hb, hR, hsz, hcell⟩ := hat i _ hacc
      simp only [RDeed] at hR
      subst hR
      have c0 : B.cell? ⟨b, o + i * 2, none⟩ = _ := hcell 0 _ rfl
      have c1 := hcell 1 _ rfl
      have hbs := wfLow hws hb
      clear hat hcell hnil hlc hcm hsz
      have hnow := hF.nowi
      have hzi := hF.zi
      have hpl := hF.pl
      refine SemS.seqw fun _ => ?_
      simp -implicitDefEqProofs (disch := first | omega | (simp only [St.set_n, St.up_n, List.length_cons, List.length_nil]; omega)) only [go_sem, Nat.reduceAdd, Nat.reduceMul, Nat.reduceSub, Int.reduceAdd, Int.reduceMul, Int.reduceSub, Int.reduceNeg, Int.reduceToNat, q1, q5, q6, q7, hlt]
      refine SemS.seqs (SemS.block ?_)
      refine SemS.seq (fun e2 s2 => MK σ (some ⟨b, o, none⟩) l.length cap k k1 i e2 s2) ?_ ?_
      · refine SemS.seqw fun _ => ?_
        simp -implicitDefEqProofs (disch := first | omega | (simp only [St.set_n, St.up_n, List.length_cons, List.length_nil]; omega)) only [go_sem, Nat.reduceAdd, Nat.reduceMul, Nat.reduceSub, Int.reduceAdd, Int.reduceMul, Int.reduceSub, Int.reduceNeg, Int.reduceToNat, q1, q5, q6, q7, hbs, hb, c0, c1]
        refine SemS.block (SemS.wp fun _ => ?_)
        have hfull : ∀ c y k2, ¬ Foot k1 w1 w2 w3 c → c ≠ k → s.m c = some y → ∀ S2, ((s.set k (.comp (EpR S2 k))).up k2).m c = some y := fun c y k2 _ hc hy S2 => by simp -implicitDefEqProofs (disch := first | omega | (simp only [St.set_n, St.up_n, List.length_cons, List.length_nil]; omega)) only [go_sem, Nat.reduceAdd, Nat.reduceMul, Nat.reduceSub, Int.reduceAdd, Int.reduceMul, Int.reduceSub, Int.reduceNeg, Int.reduceToNat, hy]
        have hq2 := hF.q2
        have hq1 := hF.q1
        have hep := hF.ep
        have hbk : b ≠ k := by omega
        by_cases hk0 : kd = 0
        · subst hk0
          simp -implicitDefEqProofs (disch := first | omega | (simp only [St.set_n, St.up_n, List.length_cons, List.length_nil]; omega)) only [go_sem, Nat.reduceAdd, Nat.reduceMul, Nat.reduceSub, Int.reduceAdd, Int.reduceMul, Int.reduceSub, Int.reduceNeg, Int.reduceToNat, q1, q5, q6, q7, hbs, hb, c1]
          refine effD_plan [0, 0, 0, 6, 14, 30, 63, 0, 0, 0, 768, 1792, 3840, 8191, 16383] [0, 1, 2, 3, 4, 5, 7, 8, 9, 10, 11, 12, 14] (.eag 0 (.eag 1 (.eag 2 (.eag 3 (.eag 4 (.eagq 5 (.eag 7 (.eag 8 (.eag 9 (.eag 10 (.eag 11 (.eagq 12 (.alt 6 [12] (.alt 13 [] (.eag 14 .fin) .stop) .stop))))))))))))) (by kernel_rfl) ?_
          simp -implicitDefEqProofs (disch := first | omega | (simp only [St.set_n, St.up_n, List.length_cons, List.length_nil]; omega)) only [go_sem, Nat.reduceAdd, Nat.reduceMul, Nat.reduceSub, Int.reduceAdd, Int.reduceMul, Int.reduceSub, Int.reduceNeg, Int.reduceToNat, q1, q5, q6, q7, hbs, hb, c1]
          refine callF_of (ep_pin hep fun k2 hk2 => ?_)
          simp -implicitDefEqProofs (disch := first | omega | (simp only [St.set_n, St.up_n, List.length_cons, List.length_nil]; omega)) only [go_sem, Nat.reduceAdd, Nat.reduceMul, Nat.reduceSub, Int.reduceAdd, Int.reduceMul, Int.reduceSub, Int.reduceNeg, Int.reduceToNat, q1, q5, q6, q7, hbs, hb, c1]
          refine callF_of (er_pin (hF.er1 (fun c y hc hy => by simp -implicitDefEqProofs (disch := first | omega | (simp only [St.set_n, St.up_n, List.length_cons, List.length_nil]; omega)) only [go_sem, Nat.reduceAdd, Nat.reduceMul, Nat.reduceSub, Int.reduceAdd, Int.reduceMul, Int.reduceSub, Int.reduceNeg, Int.reduceToNat, hy])) fun τ hR hn2 hkp => ?_)
          simp -implicitDefEqProofs (disch := first | omega | (simp only [St.set_n, St.up_n, List.length_cons, List.length_nil]; omega)) only [go_sem, Nat.reduceAdd, Nat.reduceMul, Nat.reduceSub, Int.reduceAdd, Int.reduceMul, Int.reduceSub, Int.reduceNeg, Int.reduceToNat, q1, q5, q6, q7, hbs, hb, c1]
          by_cases hin : 0 ≤ x ∧ x < S.pin.length ∧ isPin S.pin x = false
          · rw [if_pos hin] at hR hkp
            exact ⟨_, To.refl _ _, ⟨by simp -implicitDefEqProofs (disch := first | omega | (simp only [St.set_n, St.up_n, List.length_cons, List.length_nil]; omega)) only [go_sem, Nat.reduceAdd, Nat.reduceMul, Nat.reduceSub, Int.reduceAdd, Int.reduceMul, Int.reduceSub, Int.reduceNeg, Int.reduceToNat, q1], by simp -implicitDefEqProofs (disch := first | omega | (simp only [St.set_n, St.up_n, List.length_cons, List.length_nil]; omega)) only [go_sem, Nat.reduceAdd, Nat.reduceMul, Nat.reduceSub, Int.reduceAdd, Int.reduceMul, Int.reduceSub, Int.reduceNeg, Int.reduceToNat, q5], by simp -implicitDefEqProofs (disch := first | omega | (simp only [St.set_n, St.up_n, List.length_cons, List.length_nil]; omega)) only [go_sem, Nat.reduceAdd, Nat.reduceMul, Nat.reduceSub, Int.reduceAdd, Int.reduceMul, Int.reduceSub, Int.reduceNeg, Int.reduceToNat, q6], by simp -implicitDefEqProofs (disch := first | omega | (simp only [St.set_n, St.up_n, List.length_cons, List.length_nil]; omega)) only [go_sem, Nat.reduceAdd, Nat.reduceMul, Nat.reduceSub, Int.reduceAdd, Int.reduceMul, Int.reduceSub, Int.reduceNeg, Int.reduceToNat, q7], by simp -implicitDefEqProofs (disch := first | omega | (simp only [St.set_n, St.up_n, List.length_cons, List.length_nil]; omega)) only [go_sem, Nat.reduceAdd, Nat.reduceMul, Nat.reduceSub, Int.reduceAdd, Int.reduceMul, Int.reduceSub, Int.reduceNeg, Int.reduceToNat, hd]⟩, _, _, _, _, _, hF.step (S' := { S with pin := S.pin.set x.toNat S.now }) (by simp -implicitDefEqProofs (disch := first | omega | (simp only [St.set_n, St.up_n, List.length_cons, List.length_nil]; omega)) only [go_sem, Nat.reduceAdd, Nat.reduceMul, Nat.reduceSub, Int.reduceAdd, Int.reduceMul, Int.reduceSub, Int.reduceNeg, Int.reduceToNat]) (fun c y hc hy => by simp -implicitDefEqProofs (disch := first | omega | (simp only [St.set_n, St.up_n, List.length_cons, List.length_nil]; omega)) only [go_sem, Nat.reduceAdd, Nat.reduceMul, Nat.reduceSub, Int.reduceAdd, Int.reduceMul, Int.reduceSub, Int.reduceNeg, Int.reduceToNat, hy]) (by simp only [St.up_n, St.set_n]; omega) hR hkp (fun c hc => .inr hc) (Nat.le_of_eq hn2.symm) ⟨hF.lk.rng, hF.lk.e0, hF.lk.e1, hF.lk.e2⟩ (by simp only; omega) (by omega) (by simp only [List.length_set]; omega)⟩
          · rw [if_neg hin] at hR hkp
            exact ⟨_, To.refl _ _, ⟨by simp -implicitDefEqProofs (disch := first | omega | (simp only [St.set_n, St.up_n, List.length_cons, List.length_nil]; omega)) only [go_sem, Nat.reduceAdd, Nat.reduceMul, Nat.reduceSub, Int.reduceAdd, Int.reduceMul, Int.reduceSub, Int.reduceNeg, Int.reduceToNat, q1], by simp -implicitDefEqProofs (disch := first | omega | (simp only [St.set_n, St.up_n, List.length_cons, List.length_nil]; omega)) only [go_sem, Nat.reduceAdd, Nat.reduceMul, Nat.reduceSub, Int.reduceAdd, Int.reduceMul, Int.reduceSub, Int.reduceNeg, Int.reduceToNat, q5], by simp -implicitDefEqProofs (disch := first | omega | (simp only [St.set_n, St.up_n, List.length_cons, List.length_nil]; omega)) only [go_sem, Nat.reduceAdd, Nat.reduceMul, Nat.reduceSub, Int.reduceAdd, Int.reduceMul, Int.reduceSub, Int.reduceNeg, Int.reduceToNat, q6], by simp -implicitDefEqProofs (disch := first | omega | (simp only [St.set_n, St.up_n, List.length_cons, List.length_nil]; omega)) only [go_sem, Nat.reduceAdd, Nat.reduceMul, Nat.reduceSub, Int.reduceAdd, Int.reduceMul, Int.reduceSub, Int.reduceNeg, Int.reduceToNat, q7], by simp -implicitDefEqProofs (disch := first | omega | (simp only [St.set_n, St.up_n, List.length_cons, List.length_nil]; omega)) only [go_sem, Nat.reduceAdd, Nat.reduceMul, Nat.reduceSub, Int.reduceAdd, Int.reduceMul, Int.reduceSub, Int.reduceNeg, Int.reduceToNat, hd]⟩, _, _, _, _, _, hF.step (S' := S) (by simp -implicitDefEqProofs (disch := first | omega | (simp only [St.set_n, St.up_n, List.length_cons, List.length_nil]; omega)) only [go_sem, Nat.reduceAdd, Nat.reduceMul, Nat.reduceSub, Int.reduceAdd, Int.reduceMul, Int.reduceSub, Int.reduceNeg, Int.reduceToNat]) (fun c y hc hy => by simp -implicitDefEqProofs (disch := first | omega | (simp only [St.set_n, St.up_n, List.length_cons, List.length_nil]; omega)) only [go_sem, Nat.reduceAdd, Nat.reduceMul, Nat.reduceSub, Int.reduceAdd, Int.reduceMul, Int.reduceSub, Int.reduceNeg, Int.reduceToNat, hy]) (by simp only [St.up_n, St.set_n]; omega) hR hkp (fun c hc => .inr hc) (Nat.le_of_eq hn2.symm) hF.lk (by omega) (by omega) hpl⟩
        by_cases hk1 : kd = 1
        · subst hk1
          simp -implicitDefEqProofs (disch := first | omega | (simp only [St.set_n, St.up_n, List.length_cons, List.length_nil]; omega)) only [go_sem, Nat.reduceAdd, Nat.reduceMul, Nat.reduceSub, Int.reduceAdd, Int.reduceMul, Int.reduceSub, Int.reduceNeg, Int.reduceToNat, q1, q5, q6, q7, hbs, hb, c1]
          refine effD_plan [0, 0, 0, 6, 14, 30, 63, 0, 0, 0, 768, 1792, 3840, 8191, 16383] [0, 1, 2, 3, 4, 5, 7, 8, 9, 10, 11, 12, 14] (.eag 0 (.eag 1 (.eag 2 (.eag 3 (.eag 4 (.eagq 5 (.eag 7 (.eag 8 (.eag 9 (.eag 10 (.eag 11 (.eagq 12 (.alt 6 [12] (.alt 13 [] (.eag 14 .fin) .stop) .stop))))))))))))) (by kernel_rfl) ?_
          simp -implicitDefEqProofs (disch := first | omega | (simp only [St.set_n, St.up_n, List.length_cons, List.length_nil]; omega)) only [go_sem, Nat.reduceAdd, Nat.reduceMul, Nat.reduceSub, Int.reduceAdd, Int.reduceMul, Int.reduceSub, Int.reduceNeg, Int.reduceToNat, q1, q5, q6, q7, hbs, hb, c1]
          refine callF_of (ep_unpin hep fun k2 hk2 => ?_)
          simp -implicitDefEqProofs (disch := first | omega | (simp only [St.set_n, St.up_n, List.length_cons, List.length_nil]; omega)) only [go_sem, Nat.reduceAdd, Nat.reduceMul, Nat.reduceSub, Int.reduceAdd, Int.reduceMul, Int.reduceSub, Int.reduceNeg, Int.reduceToNat, q1, q5, q6, q7, hbs, hb, c1]
          refine callF_of (er_unpin (hF.er1 (fun c y hc hy => by simp -implicitDefEqProofs (disch := first | omega | (simp only [St.set_n, St.up_n, List.length_cons, List.length_nil]; omega)) only [go_sem, Nat.reduceAdd, Nat.reduceMul, Nat.reduceSub, Int.reduceAdd, Int.reduceMul, Int.reduceSub, Int.reduceNeg, Int.reduceToNat, hy])) fun τ hR hn2 hkp => ?_)
          simp -implicitDefEqProofs (disch := first | omega | (simp only [St.set_n, St.up_n, List.length_cons, List.length_nil]; omega)) only [go_sem, Nat.reduceAdd, Nat.reduceMul, Nat.reduceSub, Int.reduceAdd, Int.reduceMul, Int.reduceSub, Int.reduceNeg, Int.reduceToNat, q1, q5, q6, q7, hbs, hb, c1]
          by_cases hin : isPin S.pin x = true
          · rw [if_pos hin] at hR hkp
            exact ⟨_, To.refl _ _, ⟨by simp -implicitDefEqProofs (disch := first | omega | (simp only [St.set_n, St.up_n, List.length_cons, List.length_nil]; omega)) only [go_sem, Nat.reduceAdd, Nat.reduceMul, Nat.reduceSub, Int.reduceAdd, Int.reduceMul, Int.reduceSub, Int.reduceNeg, Int.reduceToNat, q1], by simp -implicitDefEqProofs (disch := first | omega | (simp only [St.set_n, St.up_n, List.length_cons, List.length_nil]; omega)) only [go_sem, Nat.reduceAdd, Nat.reduceMul, Nat.reduceSub, Int.reduceAdd, Int.reduceMul, Int.reduceSub, Int.reduceNeg, Int.reduceToNat, q5], by simp -implicitDefEqProofs (disch := first | omega | (simp only [St.set_n, St.up_n, List.length_cons, List.length_nil]; omega)) only [go_sem, Nat.reduceAdd, Nat.reduceMul, Nat.reduceSub, Int.reduceAdd, Int.reduceMul, Int.reduceSub, Int.reduceNeg, Int.reduceToNat, q6], by simp -implicitDefEqProofs (disch := first | omega | (simp only [St.set_n, St.up_n, List.length_cons, List.length_nil]; omega)) only [go_sem, Nat.reduceAdd, Nat.reduceMul, Nat.reduceSub, Int.reduceAdd, Int.reduceMul, Int.reduceSub, Int.reduceNeg, Int.reduceToNat, q7], by simp -implicitDefEqProofs (disch := first | omega | (simp only [St.set_n, St.up_n, List.length_cons, List.length_nil]; omega)) only [go_sem, Nat.reduceAdd, Nat.reduceMul, Nat.reduceSub, Int.reduceAdd, Int.reduceMul, Int.reduceSub, Int.reduceNeg, Int.reduceToNat, hd]⟩, _, _, _, _, _, hF.step (S' := { S with pin := S.pin.set x.toNat (-1) }) (by simp -implicitDefEqProofs (disch := first | omega | (simp only [St.set_n, St.up_n, List.length_cons, List.length_nil]; omega)) only [go_sem, Nat.reduceAdd, Nat.reduceMul, Nat.reduceSub, Int.reduceAdd, Int.reduceMul, Int.reduceSub, Int.reduceNeg, Int.reduceToNat]) (fun c y hc hy => by simp -implicitDefEqProofs (disch := first | omega | (simp only [St.set_n, St.up_n, List.length_cons, List.length_nil]; omega)) only [go_sem, Nat.reduceAdd, Nat.reduceMul, Nat.reduceSub, Int.reduceAdd, Int.reduceMul, Int.reduceSub, Int.reduceNeg, Int.reduceToNat, hy]) (by simp only [St.up_n, St.set_n]; omega) hR hkp (fun c hc => .inr hc) (Nat.le_of_eq hn2.symm) ⟨hF.lk.rng, hF.lk.e0, hF.lk.e1, hF.lk.e2⟩ (by simp only; omega) (by omega) (by simp only [List.length_set]; omega)⟩
          · rw [if_neg hin] at hR hkp
            exact ⟨_, To.refl _ _, ⟨by simp -implicitDefEqProofs (disch := first | omega | (simp only [St.set_n, St.up_n, List.length_cons, List.length_nil]; omega)) only [go_sem, Nat.reduceAdd, Nat.reduceMul, Nat.reduceSub, Int.reduceAdd, Int.reduceMul, Int.reduceSub, Int.reduceNeg, Int.reduceToNat, q1], by simp -implicitDefEqProofs (disch := first | omega | (simp only [St.set_n, St.up_n, List.length_cons, List.length_nil]; omega)) only [go_sem, Nat.reduceAdd, Nat.reduceMul, Nat.reduceSub, Int.reduceAdd, Int.reduceMul, Int.reduceSub, Int.reduceNeg, Int.reduceToNat, q5], by simp -implicitDefEqProofs (disch := first | omega | (simp only [St.set_n, St.up_n, List.length_cons, List.length_nil]; omega)) only [go_sem, Nat.reduceAdd, Nat.reduceMul, Nat.reduceSub, Int.reduceAdd, Int.reduceMul, Int.reduceSub, Int.reduceNeg, Int.reduceToNat, q6], by simp -implicitDefEqProofs (disch := first | omega | (simp only [St.set_n, St.up_n, List.length_cons, List.length_nil]; omega)) only [go_sem, Nat.reduceAdd, Nat.reduceMul, Nat.reduceSub, Int.reduceAdd, Int.reduceMul, Int.reduceSub, Int.reduceNeg, Int.reduceToNat, q7], by simp -implicitDefEqProofs (disch := first | omega | (simp only [St.set_n, St.up_n, List.length_cons, List.length_nil]; omega)) only [go_sem, Nat.reduceAdd, Nat.reduceMul, Nat.reduceSub, Int.reduceAdd, Int.reduceMul, Int.reduceSub, Int.reduceNeg, Int.reduceToNat, hd]⟩, _, _, _, _, _, hF.step (S' := S) (by simp -implicitDefEqProofs (disch := first | omega | (simp only [St.set_n, St.up_n, List.length_cons, List.length_nil]; omega)) only [go_sem, Nat.reduceAdd, Nat.reduceMul, Nat.reduceSub, Int.reduceAdd, Int.reduceMul, Int.reduceSub, Int.reduceNeg, Int.reduceToNat]) (fun c y hc hy => by simp -implicitDefEqProofs (disch := first | omega | (simp only [St.set_n, St.up_n, List.length_cons, List.length_nil]; omega)) only [go_sem, Nat.reduceAdd, Nat.reduceMul, Nat.reduceSub, Int.reduceAdd, Int.reduceMul, Int.reduceSub, Int.reduceNeg, Int.reduceToNat, hy]) (by simp only [St.up_n, St.set_n]; omega) hR hkp (fun c hc => .inr hc) (Nat.le_of_eq hn2.symm) hF.lk (by omega) (by omega) hpl⟩
        have hll := lim_sum Z
        by_cases hk2 : kd = 2
        · subst hk2
          simp -implicitDefEqProofs (disch := first | omega | (simp only [St.set_n, St.up_n, List.length_cons, List.length_nil]; omega)) only [go_sem, Nat.reduceAdd, Nat.reduceMul, Nat.reduceSub, Int.reduceAdd, Int.reduceMul, Int.reduceSub, Int.reduceNeg, Int.reduceToNat, q1, q5, q6, q7, hbs, hb, c1]
          refine callF_of (ep_retire hep (by omega) (by rw [hF.lk.e0]; omega) (by rw [hF.lk.e1]; omega) (by rw [hF.lk.e2]; omega) fun k2 hk2 => ?_)
          simp -implicitDefEqProofs (disch := first | omega | (simp only [St.set_n, St.up_n, List.length_cons, List.length_nil]; omega)) only [go_sem, Nat.reduceAdd, Nat.reduceMul, Nat.reduceSub, Int.reduceAdd, Int.reduceMul, Int.reduceSub, Int.reduceNeg, Int.reduceToNat, q1, q5, q6, q7, hbs, hb, c1]
          refine callF_of (er_retire (hF.er1 (fun c y hc hy => by simp -implicitDefEqProofs (disch := first | omega | (simp only [St.set_n, St.up_n, List.length_cons, List.length_nil]; omega)) only [go_sem, Nat.reduceAdd, Nat.reduceMul, Nat.reduceSub, Int.reduceAdd, Int.reduceMul, Int.reduceSub, Int.reduceNeg, Int.reduceToNat, hy])) (by omega) fun τ w2' w3' hR hkp hft hn2 => ?_)
          simp -implicitDefEqProofs (disch := first | omega | (simp only [St.set_n, St.up_n, List.length_cons, List.length_nil]; omega)) only [go_sem, Nat.reduceAdd, Nat.reduceMul, Nat.reduceSub, Int.reduceAdd, Int.reduceMul, Int.reduceSub, Int.reduceNeg, Int.reduceToNat, q1, q5, q6, q7, hbs, hb, c1]
          exact ⟨_, To.refl _ _, ⟨by simp -implicitDefEqProofs (disch := first | omega | (simp only [St.set_n, St.up_n, List.length_cons, List.length_nil]; omega)) only [go_sem, Nat.reduceAdd, Nat.reduceMul, Nat.reduceSub, Int.reduceAdd, Int.reduceMul, Int.reduceSub, Int.reduceNeg, Int.reduceToNat, q1], by simp -implicitDefEqProofs (disch := first | omega | (simp only [St.set_n, St.up_n, List.length_cons, List.length_nil]; omega)) only [go_sem, Nat.reduceAdd, Nat.reduceMul, Nat.reduceSub, Int.reduceAdd, Int.reduceMul, Int.reduceSub, Int.reduceNeg, Int.reduceToNat, q5], by simp -implicitDefEqProofs (disch := first | omega | (simp only [St.set_n, St.up_n, List.length_cons, List.length_nil]; omega)) only [go_sem, Nat.reduceAdd, Nat.reduceMul, Nat.reduceSub, Int.reduceAdd, Int.reduceMul, Int.reduceSub, Int.reduceNeg, Int.reduceToNat, q6], by simp -implicitDefEqProofs (disch := first | omega | (simp only [St.set_n, St.up_n, List.length_cons, List.length_nil]; omega)) only [go_sem, Nat.reduceAdd, Nat.reduceMul, Nat.reduceSub, Int.reduceAdd, Int.reduceMul, Int.reduceSub, Int.reduceNeg, Int.reduceToNat, q7], by simp -implicitDefEqProofs (disch := first | omega | (simp only [St.set_n, St.up_n, List.length_cons, List.length_nil]; omega)) only [go_sem, Nat.reduceAdd, Nat.reduceMul, Nat.reduceSub, Int.reduceAdd, Int.reduceMul, Int.reduceSub, Int.reduceNeg, Int.reduceToNat, hd]⟩, _, _, _, _, _, hF.step (S' := S.put (S.now % 3) (S.get (S.now % 3) ++ [x])) (by simp -implicitDefEqProofs (disch := first | omega | (simp only [St.set_n, St.up_n, List.length_cons, List.length_nil]; omega)) only [go_sem, Nat.reduceAdd, Nat.reduceMul, Nat.reduceSub, Int.reduceAdd, Int.reduceMul, Int.reduceSub, Int.reduceNeg, Int.reduceToNat]) (fun c y hc hy => by simp -implicitDefEqProofs (disch := first | omega | (simp only [St.set_n, St.up_n, List.length_cons, List.length_nil]; omega)) only [go_sem, Nat.reduceAdd, Nat.reduceMul, Nat.reduceSub, Int.reduceAdd, Int.reduceMul, Int.reduceSub, Int.reduceNeg, Int.reduceToNat, hy]) (by simp only [St.up_n, St.set_n]; omega) (by rw [put_now, put_pin]; exact hR) hkp hft hn2 (hF.lk.retire x) (by rw [put_now]; omega) (by simp; omega) (by rw [put_pin]; exact hpl)⟩
        by_cases hk3 : kd = 3
        · subst hk3
          simp -implicitDefEqProofs (disch := first | omega | (simp only [St.set_n, St.up_n, List.length_cons, List.length_nil]; omega)) only [go_sem, Nat.reduceAdd, Nat.reduceMul, Nat.reduceSub, Int.reduceAdd, Int.reduceMul, Int.reduceSub, Int.reduceNeg, Int.reduceToNat, q1, q5, q6, q7]
          cases ha : S.pin.any (late S.now) with
          | true =>
            refine callF_of (ep_advance_no hep (by omega) ha fun k2 hk2 => ?_)
            simp -implicitDefEqProofs (disch := first | omega | (simp only [St.set_n, St.up_n, List.length_cons, List.length_nil]; omega)) only [go_sem, Nat.reduceAdd, Nat.reduceMul, Nat.reduceSub, Int.reduceAdd, Int.reduceMul, Int.reduceSub, Int.reduceNeg, Int.reduceToNat, q1, q5, q6, q7]
            refine callF_of (er_advance_no (hF.er1 (fun c y hc hy => by simp -implicitDefEqProofs (disch := first | omega | (simp only [St.set_n, St.up_n, List.length_cons, List.length_nil]; omega)) only [go_sem, Nat.reduceAdd, Nat.reduceMul, Nat.reduceSub, Int.reduceAdd, Int.reduceMul, Int.reduceSub, Int.reduceNeg, Int.reduceToNat, hy])) ha (by omega) ?_)
            simp -implicitDefEqProofs (disch := first | omega | (simp only [St.set_n, St.up_n, List.length_cons, List.length_nil]; omega)) only [go_sem, Nat.reduceAdd, Nat.reduceMul, Nat.reduceSub, Int.reduceAdd, Int.reduceMul, Int.reduceSub, Int.reduceNeg, Int.reduceToNat, q1, q5, q6, q7]
            refine callF_of (same_ints (l := []) (l' := []) (by simp) Own.nil Own.nil ?_)
            simp -implicitDefEqProofs (disch := first | omega | (simp only [St.set_n, St.up_n, List.length_cons, List.length_nil]; omega)) only [go_sem, Nat.reduceAdd, Nat.reduceMul, Nat.reduceSub, Int.reduceAdd, Int.reduceMul, Int.reduceSub, Int.reduceNeg, Int.reduceToNat, q1, q5, q6, q7]
            exact ⟨_, To.refl _ _, ⟨by simp -implicitDefEqProofs (disch := first | omega | (simp only [St.set_n, St.up_n, List.length_cons, List.length_nil]; omega)) only [go_sem, Nat.reduceAdd, Nat.reduceMul, Nat.reduceSub, Int.reduceAdd, Int.reduceMul, Int.reduceSub, Int.reduceNeg, Int.reduceToNat, q1], by simp -implicitDefEqProofs (disch := first | omega | (simp only [St.set_n, St.up_n, List.length_cons, List.length_nil]; omega)) only [go_sem, Nat.reduceAdd, Nat.reduceMul, Nat.reduceSub, Int.reduceAdd, Int.reduceMul, Int.reduceSub, Int.reduceNeg, Int.reduceToNat, q5], by simp -implicitDefEqProofs (disch := first | omega | (simp only [St.set_n, St.up_n, List.length_cons, List.length_nil]; omega)) only [go_sem, Nat.reduceAdd, Nat.reduceMul, Nat.reduceSub, Int.reduceAdd, Int.reduceMul, Int.reduceSub, Int.reduceNeg, Int.reduceToNat, q6], by simp -implicitDefEqProofs (disch := first | omega | (simp only [St.set_n, St.up_n, List.length_cons, List.length_nil]; omega)) only [go_sem, Nat.reduceAdd, Nat.reduceMul, Nat.reduceSub, Int.reduceAdd, Int.reduceMul, Int.reduceSub, Int.reduceNeg, Int.reduceToNat, q7], by simp -implicitDefEqProofs (disch := first | omega | (simp only [St.set_n, St.up_n, List.length_cons, List.length_nil]; omega)) only [go_sem, Nat.reduceAdd, Nat.reduceMul, Nat.reduceSub, Int.reduceAdd, Int.reduceMul, Int.reduceSub, Int.reduceNeg, Int.reduceToNat, hd]⟩, _, _, _, _, _, hF.step (s1 := s.up k2) (S' := S) (by simp -implicitDefEqProofs (disch := first | omega | (simp only [St.set_n, St.up_n, List.length_cons, List.length_nil]; omega)) only [go_sem, Nat.reduceAdd, Nat.reduceMul, Nat.reduceSub, Int.reduceAdd, Int.reduceMul, Int.reduceSub, Int.reduceNeg, Int.reduceToNat, hep]) (fun c y hc hy => by simp -implicitDefEqProofs (disch := first | omega | (simp only [St.set_n, St.up_n, List.length_cons, List.length_nil]; omega)) only [go_sem, Nat.reduceAdd, Nat.reduceMul, Nat.reduceSub, Int.reduceAdd, Int.reduceMul, Int.reduceSub, Int.reduceNeg, Int.reduceToNat, hy]) (by simp only [St.up_n]; omega) (hF.er1 (fun c y hc hy => by simp -implicitDefEqProofs (disch := first | omega | (simp only [St.set_n, St.up_n, List.length_cons, List.length_nil]; omega)) only [go_sem, Nat.reduceAdd, Nat.reduceMul, Nat.reduceSub, Int.reduceAdd, Int.reduceMul, Int.reduceSub, Int.reduceNeg, Int.reduceToNat, hy])) (fun c y _ hy => hy) (fun c hc => .inr hc) (Nat.le_refl _) hF.lk (by omega) (by omega) hpl⟩
          | false =>
            refine callF_wf (ep_advance hep (by omega) (by omega) ha fun v s1 ov hq hkq hvq hn1 hb1 hw1 => ?_)
            have hkq' : ∀ c y, c ≠ k → s.m c = some y → s1.m c = some y := fun c y hc hy => (hkq c y hc hy).1
            simp -implicitDefEqProofs (disch := first | omega | (simp only [St.set_n, St.up_n, List.length_cons, List.length_nil]; omega)) only [go_sem, Nat.reduceAdd, Nat.reduceMul, Nat.reduceSub, Int.reduceAdd, Int.reduceMul, Int.reduceSub, Int.reduceNeg, Int.reduceToNat, q1, q5, q6, q7]
            refine callF_of (er_advance (hF.er1 hkq') ha (by omega) (by omega) (by omega) fun v' τ w2' w3' hR og hkp hft hn2 => ?_)
            have hvf : ∀ c, blk v = some c → ¬ Foot k1 w1 w2 w3 c := fun c hv hc => by
              obtain ⟨y, hy⟩ := hF.er.has hc
              exact (hkq c y (hF.foot c hc).2 hy).2 hv
            have ov' := ov.keepR fun c o hc ho => hkp c _ (hvf c hc) ho
            have hgl := gone_lim hF.lk
            have hgn := gone_len ((S.now : Int) + 1) Z
            have hsn := stay_len ((S.now : Int) + 1) Z
            rw [hgl] at og hgn
            simp -implicitDefEqProofs (disch := first | omega | (simp only [St.set_n, St.up_n, List.length_cons, List.length_nil]; omega)) only [go_sem, Nat.reduceAdd, Nat.reduceMul, Nat.reduceSub, Int.reduceAdd, Int.reduceMul, Int.reduceSub, Int.reduceNeg, Int.reduceToNat, q1, q5, q6, q7]
            refine callF_of (same_ints (by omega) ov' og ?_)
            rw [show decide (S.get ((S.now + 1) % 3) = S.get ((S.now + 1) % 3)) = true by simp]
            simp -implicitDefEqProofs (disch := first | omega | (simp only [St.set_n, St.up_n, List.length_cons, List.length_nil]; omega)) only [go_sem, Nat.reduceAdd, Nat.reduceMul, Nat.reduceSub, Int.reduceAdd, Int.reduceMul, Int.reduceSub, Int.reduceNeg, Int.reduceToNat, q1, q5, q6, q7]
            exact ⟨_, To.refl _ _, ⟨by simp -implicitDefEqProofs (disch := first | omega | (simp only [St.set_n, St.up_n, List.length_cons, List.length_nil]; omega)) only [go_sem, Nat.reduceAdd, Nat.reduceMul, Nat.reduceSub, Int.reduceAdd, Int.reduceMul, Int.reduceSub, Int.reduceNeg, Int.reduceToNat, q1], by simp -implicitDefEqProofs (disch := first | omega | (simp only [St.set_n, St.up_n, List.length_cons, List.length_nil]; omega)) only [go_sem, Nat.reduceAdd, Nat.reduceMul, Nat.reduceSub, Int.reduceAdd, Int.reduceMul, Int.reduceSub, Int.reduceNeg, Int.reduceToNat, q5], by simp -implicitDefEqProofs (disch := first | omega | (simp only [St.set_n, St.up_n, List.length_cons, List.length_nil]; omega)) only [go_sem, Nat.reduceAdd, Nat.reduceMul, Nat.reduceSub, Int.reduceAdd, Int.reduceMul, Int.reduceSub, Int.reduceNeg, Int.reduceToNat, q6], by simp -implicitDefEqProofs (disch := first | omega | (simp only [St.set_n, St.up_n, List.length_cons, List.length_nil]; omega)) only [go_sem, Nat.reduceAdd, Nat.reduceMul, Nat.reduceSub, Int.reduceAdd, Int.reduceMul, Int.reduceSub, Int.reduceNeg, Int.reduceToNat, q7], by simp -implicitDefEqProofs (disch := first | omega | (simp only [St.set_n, St.up_n, List.length_cons, List.length_nil]; omega)) only [go_sem, Nat.reduceAdd, Nat.reduceMul, Nat.reduceSub, Int.reduceAdd, Int.reduceMul, Int.reduceSub, Int.reduceNeg, Int.reduceToNat, hd]⟩, _, _, _, _, _, hF.step (S' := { S with now := S.now + 1 }.put ((S.now + 1) % 3) []) hq hkq' hn1 (by rw [put_now, put_pin]; exact hR) hkp hft hn2 hF.lk.advance (by rw [put_now]; simp only; omega) (by omega) (by rw [put_pin]; exact hpl)⟩
        · simp -implicitDefEqProofs (disch := first | omega | (simp only [St.set_n, St.up_n, List.length_cons, List.length_nil]; omega)) only [go_sem, Nat.reduceAdd, Nat.reduceMul, Nat.reduceSub, Int.reduceAdd, Int.reduceMul, Int.reduceSub, Int.reduceNeg, Int.reduceToNat, q1, q5, q6, q7, hk0, hk1, hk2, hk3]
          exact ⟨_, To.refl _ _, ⟨by simp -implicitDefEqProofs (disch := first | omega | (simp only [St.set_n, St.up_n, List.length_cons, List.length_nil]; omega)) only [go_sem, Nat.reduceAdd, Nat.reduceMul, Nat.reduceSub, Int.reduceAdd, Int.reduceMul, Int.reduceSub, Int.reduceNeg, Int.reduceToNat, q1], by simp -implicitDefEqProofs (disch := first | omega | (simp only [St.set_n, St.up_n, List.length_cons, List.length_nil]; omega)) only [go_sem, Nat.reduceAdd, Nat.reduceMul, Nat.reduceSub, Int.reduceAdd, Int.reduceMul, Int.reduceSub, Int.reduceNeg, Int.reduceToNat, q5], by simp -implicitDefEqProofs (disch := first | omega | (simp only [St.set_n, St.up_n, List.length_cons, List.length_nil]; omega)) only [go_sem, Nat.reduceAdd, Nat.reduceMul, Nat.reduceSub, Int.reduceAdd, Int.reduceMul, Int.reduceSub, Int.reduceNeg, Int.reduceToNat, q6], by simp -implicitDefEqProofs (disch := first | omega | (simp only [St.set_n, St.up_n, List.length_cons, List.length_nil]; omega)) only [go_sem, Nat.reduceAdd, Nat.reduceMul, Nat.reduceSub, Int.reduceAdd, Int.reduceMul, Int.reduceSub, Int.reduceNeg, Int.reduceToNat, q7], by simp -implicitDefEqProofs (disch := first | omega | (simp only [St.set_n, St.up_n, List.length_cons, List.length_nil]; omega)) only [go_sem, Nat.reduceAdd, Nat.reduceMul, Nat.reduceSub, Int.reduceAdd, Int.reduceMul, Int.reduceSub, Int.reduceNeg, Int.reduceToNat, hd]⟩, _, _, _, _, _, hF.step (S' := S) hep (fun c y hc hy => hy) (Nat.le_refl _) hF.er (fun c y _ hy => hy) (fun c hc => .inr hc) (Nat.le_refl _) hF.lk (by omega) (by omega) hpl⟩
      · clear hF q1 q5 q6 q7 hd c0 hbs hws hnow hzi hpl S Z w1 w2 w3
        rintro e s hws ⟨⟨q1, q5, q6, q7, hd⟩, S, Z, w1, w2, w3, hF⟩
        refine SemS.wp fun _ => ?_
        have hbs := wfLow hws hb
        have hr := hF.er.root
        obtain ⟨A2, C2, rfl, _⟩ := hF.er.o2.is
        have hll := lim_sum Z
        have hzi := hF.zi
        have hq1 := hF.q1
        have hq2 := hF.q2
        simp -implicitDefEqProofs (disch := first | omega | (simp only [St.set_n, St.up_n, List.length_cons, List.length_nil]; omega)) only [go_sem, Nat.reduceAdd, Nat.reduceMul, Nat.reduceSub, Int.reduceAdd, Int.reduceMul, Int.reduceSub, Int.reduceNeg, Int.reduceToNat, q1, q5, q6, q7]
        refine effD_plan [0, 1, 0, 4, 12, 28, 63, 127, 255, 511, 255, 1279, 3327, 7423, 15615, 32767, 65535, 131071, 262143, 262143, 262143, 1835007, 3932159, 8126463, 16777215, 262143, 262143, 262143, 201588735, 470024191, 1006895103, 2147483647, 4294967295, 8589934591] [0, 2, 3, 4, 5, 6, 7, 8, 10, 11, 12, 13, 14, 15, 16, 17, 18, 19, 20, 21, 22, 23, 25, 26, 27, 28, 29, 30, 32, 33] (.eag 0 (.eag 2 (.eag 3 (.eag 4 (.eagq 5 (.alt 1 [5] (.eag 6 (.eag 7 (.eag 8 (.eag 10 (.eag 11 (.eag 12 (.eagq 13 (.eagq 14 (.alt 9 [13, 14] (.eag 15 (.eag 16 (.eag 17 (.eag 18 (.eag 19 (.eag 20 (.eag 21 (.eag 22 (.eagq 23 (.eag 25 (.eag 26 (.eag 27 (.eag 28 (.eag 29 (.eagq 30 (.alt 24 [30] (.alt 31 [] (.eag 32 (.eag 33 .fin)) .stop) .stop)))))))))))))))) .stop))))))))) .stop)))))) (by kernel_rfl) ?_
        simp -implicitDefEqProofs (disch := first | omega | (simp only [St.set_n, St.up_n, List.length_cons, List.length_nil]; omega)) only [go_sem, Nat.reduceAdd, Nat.reduceMul, Nat.reduceSub, Int.reduceAdd, Int.reduceMul, Int.reduceSub, Int.reduceNeg, Int.reduceToNat, q1, q5, q6, q7, hr, hbs, hb, c1]
        have hep := hF.ep
        have hpl := hF.pl
        have hZ : (S.l0.length : Int) + S.l1.length + S.l2.length = Z.length := by rw [hF.lk.e0, hF.lk.e1, hF.lk.e2]; omega
        refine callF_of (ep_now hep fun k2 hk2 => ?_)
        simp -implicitDefEqProofs (disch := first | omega | (simp only [St.set_n, St.up_n, List.length_cons, List.length_nil]; omega)) only [go_sem, Nat.reduceAdd, Nat.reduceMul, Nat.reduceSub, Int.reduceAdd, Int.reduceMul, Int.reduceSub, Int.reduceNeg, Int.reduceToNat, q1, q5, q6, q7, hr, hbs, hb, c1]
        refine callF_of (ep_waiting (S := S) (by simp -implicitDefEqProofs (disch := first | omega | (simp only [St.set_n, St.up_n, List.length_cons, List.length_nil]; omega)) only [go_sem, Nat.reduceAdd, Nat.reduceMul, Nat.reduceSub, Int.reduceAdd, Int.reduceMul, Int.reduceSub, Int.reduceNeg, Int.reduceToNat, hep]) (by rw [hF.lk.e0]; omega) (by rw [hF.lk.e1]; omega) (by rw [hF.lk.e2]; omega) fun k3 hk3 => ?_)
        rw [hZ]
        simp -implicitDefEqProofs (disch := first | omega | (simp only [St.set_n, St.up_n, List.length_cons, List.length_nil]; omega)) only [go_sem, Nat.reduceAdd, Nat.reduceMul, Nat.reduceSub, Int.reduceAdd, Int.reduceMul, Int.reduceSub, Int.reduceNeg, Int.reduceToNat, q1, q5, q6, q7, hr, hbs, hb, c1]
        refine callF_of (ep_pinned (S := S) (by simp -implicitDefEqProofs (disch := first | omega | (simp only [St.set_n, St.up_n, List.length_cons, List.length_nil]; omega)) only [go_sem, Nat.reduceAdd, Nat.reduceMul, Nat.reduceSub, Int.reduceAdd, Int.reduceMul, Int.reduceSub, Int.reduceNeg, Int.reduceToNat, hep]) fun k4 hk4 => ?_)
        simp -implicitDefEqProofs (disch := first | omega | (simp only [St.set_n, St.up_n, List.length_cons, List.length_nil]; omega)) only [go_sem, Nat.reduceAdd, Nat.reduceMul, Nat.reduceSub, Int.reduceAdd, Int.reduceMul, Int.reduceSub, Int.reduceNeg, Int.reduceToNat, q1, q5, q6, q7, hr, hbs, hb, c1]
        refine callF_of (er_is (hF.er1 (fun c y hc hy => by simp -implicitDefEqProofs (disch := first | omega | (simp only [St.set_n, St.up_n, List.length_cons, List.length_nil]; omega)) only [go_sem, Nat.reduceAdd, Nat.reduceMul, Nat.reduceSub, Int.reduceAdd, Int.reduceMul, Int.reduceSub, Int.reduceNeg, Int.reduceToNat, hy])) ?_)
        simp -implicitDefEqProofs (disch := first | omega | (simp only [St.set_n, St.up_n, List.length_cons, List.length_nil]; omega)) only [go_sem, Nat.reduceAdd, Nat.reduceMul, Nat.reduceSub, Int.reduceAdd, Int.reduceMul, Int.reduceSub, Int.reduceNeg, Int.reduceToNat, q1, q5, q6, q7, hr, hbs, hb, c1]
        refine SemS.wp fun _ => ?_
        simp -implicitDefEqProofs (disch := first | omega | (simp only [St.set_n, St.up_n, List.length_cons, List.length_nil]; omega)) only [go_sem, Nat.reduceAdd, Nat.reduceMul, Nat.reduceSub, Int.reduceAdd, Int.reduceMul, Int.reduceSub, Int.reduceNeg, Int.reduceToNat, q7]
        refine ⟨l.length - (i + 1), by omega, _, To.refl _ _, i + 1, S, Z, w1, _, w3, rfl, by omega, ⟨by simp -implicitDefEqProofs (disch := first | omega | (simp only [St.set_n, St.up_n, List.length_cons, List.length_nil]; omega)) only [go_sem, Nat.reduceAdd, Nat.reduceMul, Nat.reduceSub, Int.reduceAdd, Int.reduceMul, Int.reduceSub, Int.reduceNeg, Int.reduceToNat, q1], by simp -implicitDefEqProofs (disch := first | omega | (simp only [St.set_n, St.up_n, List.length_cons, List.length_nil]; omega)) only [go_sem, Nat.reduceAdd, Nat.reduceMul, Nat.reduceSub, Int.reduceAdd, Int.reduceMul, Int.reduceSub, Int.reduceNeg, Int.reduceToNat, q5], by simp -implicitDefEqProofs (disch := first | omega | (simp only [St.set_n, St.up_n, List.length_cons, List.length_nil]; omega)) only [go_sem, Nat.reduceAdd, Nat.reduceMul, Nat.reduceSub, Int.reduceAdd, Int.reduceMul, Int.reduceSub, Int.reduceNeg, Int.reduceToNat, q6], by simp -implicitDefEqProofs (disch := first | omega | (simp only [St.set_n, St.up_n, List.length_cons, List.length_nil]; omega)) only [go_sem, Nat.reduceAdd, Nat.reduceMul, Nat.reduceSub, Int.reduceAdd, Int.reduceMul, Int.reduceSub, Int.reduceNeg, Int.reduceToNat]; rfl, by simp -implicitDefEqProofs (disch := first | omega | (simp only [St.set_n, St.up_n, List.length_cons, List.length_nil]; omega)) only [go_sem, Nat.reduceAdd, Nat.reduceMul, Nat.reduceSub, Int.reduceAdd, Int.reduceMul, Int.reduceSub, Int.reduceNeg, Int.reduceToNat, hd]⟩, ⟨by simp -implicitDefEqProofs (disch := first | omega | (simp only [St.set_n, St.up_n, List.length_cons, List.length_nil]; omega)) only [go_sem, Nat.reduceAdd, Nat.reduceMul, Nat.reduceSub, Int.reduceAdd, Int.reduceMul, Int.reduceSub, Int.reduceNeg, Int.reduceToNat, hep], hF.er1 (fun c y hc hy => by simp -implicitDefEqProofs (disch := first | omega | (simp only [St.set_n, St.up_n, List.length_cons, List.length_nil]; omega)) only [go_sem, Nat.reduceAdd, Nat.reduceMul, Nat.reduceSub, Int.reduceAdd, Int.reduceMul, Int.reduceSub, Int.reduceNeg, Int.reduceToNat, hy]), hF.lk, hF.foot, hF.q1, ?_, fun c y hc hy => by have := hF.old c y hc hy; simp -implicitDefEqProofs (disch := first | omega | (simp only [St.set_n, St.up_n, List.length_cons, List.length_nil]; omega)) only [go_sem, Nat.reduceAdd, Nat.reduceMul, Nat.reduceSub, Int.reduceAdd, Int.reduceMul, Int.reduceSub, Int.reduceNeg, Int.reduceToNat, this], hF.nowi, hF.zi, hF.pl⟩⟩
        simp only [St.up_n] at *
        omega
    · refine SemS.wp fun _ => ?_
      simp -implicitDefEqProofs (disch := first | omega | (simp only [St.set_n, St.up_n, List.length_cons, List.length_nil]; omega)) only [go_sem, Nat.reduceAdd, Nat.reduceMul, Nat.reduceSub, Int.reduceAdd, Int.reduceMul, Int.reduceSub, Int.reduceNeg, Int.reduceToNat, q1, q5, q6, q7, hlt, hd]
      exact ⟨_, To.same (fun d y h2 h3 => hF.old d y h2 h3) hwf, hK _ (by have := hF.q1; have := hF.q2; omega)⟩
end
end Go.Proofs.Ytgcojbgkenndhaa
