/- Orders of locks: the document's 'Rising' and 'Common', and same numbers: contracts, by walks. -/
import Derived.Test.YtdbgeahmhfocaaaGroup2
import Derived.Test.YtdbgeahmhfocaaaLCell
namespace Go.Proofs.Ytdbgeahmhfocaaa
set_option linter.unusedSimpArgs false
set_option linter.unusedVariables false
set_option maxRecDepth 100000
open Go Go.RowKit
section
variable {B : World} {σ : St} {K : Value → St → Prop}
def hit (l : List Int) (i : Nat) : Bool := l.any fun x => decide ((x.tmod 8 + 8).tmod 8 = (i : Int))
def rise (l : List Int) : Nat → List Int
  | 0 => []
  | i + 1 => rise l i ++ (if hit l i then [(i : Int)] else [])
theorem rise_len (l : List Int) : ∀ i, (rise l i).length ≤ i
  | 0 => by simp [rise]
  | i + 1 => by
    have := rise_len l i
    unfold rise
    split <;> simp <;> omega
structure RsO (v0 v : Value) (i : Nat) (e : Fr) : Prop where
  v0 : e.v 0 = v0
  v1 : e.v 1 = .int .i64 8
  v5 : e.v 5 = v
  v6 : e.v 6 = .int .i64 i
  d : e.d = []
structure RsI (v0 v : Value) (i k : Nat) (e : Fr) : Prop where
  v0 : e.v 0 = v0
  v1 : e.v 1 = .int .i64 8
  v5 : e.v 5 = v
  v6 : e.v 6 = .int .i64 i
  v7 : e.v 7 = .int .i64 k
  d : e.d = []
structure RsS (σ : St) (l : List Int) (i : Nat) (v : Value) (s : St) : Prop where
  o : Own s 3 1 (ints (rise l i)) (rise l i).length v
  old : ∀ c, c < σ.n → s.m c = σ.m c
  n : σ.n ≤ s.n
  b : ∀ b, blk v = some b → σ.n ≤ b
theorem tm8 (x : Int) : -8 < x.tmod 8 ∧ x.tmod 8 < 8 := by
  have h1 := Int.tmod_lt_of_pos x (show (0 : Int) < 8 by omega)
  have h2 := Int.tmod_lt_of_pos (-x) (show (0 : Int) < 8 by omega)
  rw [Int.neg_tmod] at h2
  omega
theorem ints_app (a b : List Int) : ints (a ++ b) = ints a ++ ints b := by simp [ints]
set_option maxHeartbeats 4000000 in
theorem rising_of {l : List Int} {v : Value} (hp : SlR B 1 RInt l v) (hpl : l.length ≤ 9223372036854775807)
    (hK : ∀ v' s', Own s' 3 1 (ints (rise l 8)) (rise l 8).length v' → (∀ c, c < σ.n → s'.m c = σ.m c) → σ.n ≤ s'.n → (∀ b, blk v' = some b → σ.n ≤ b) → K v' s') : Fn Try.prog B 7 #[v, .int .i64 8] σ K := by
  obtain ⟨a, cap, rfl, hlc, hcm, hnil, hat⟩ := hp
  refine Fn.ofS is7 (by simp) fun hwf => ?_
  have hB := hwf.1
  simp only [b7, Try.f7, Option.getD_some]
  refine SemS.seqw fun _ => ?_
  simp -implicitDefEqProofs (disch := first | omega | (simp only [St.set_n, St.up_n, List.length_cons, List.length_nil]; omega)) only [go_sem, Nat.reduceAdd, Nat.reduceMul, Nat.reduceSub, Int.reduceAdd, Int.reduceMul, Int.reduceSub, Int.reduceNeg, Int.reduceToNat]
  refine SemS.seqw fun _ => ?_
  simp -implicitDefEqProofs (disch := first | omega | (simp only [St.set_n, St.up_n, List.length_cons, List.length_nil]; omega)) only [go_sem, Nat.reduceAdd, Nat.reduceMul, Nat.reduceSub, Int.reduceAdd, Int.reduceMul, Int.reduceSub, Int.reduceNeg, Int.reduceToNat]
  refine SemS.seq (fun e s => ∃ v', RsO (.slice a l.length cap) v' 8 e ∧ RsS σ l 8 v' s) ?_ ?_
  · refine SemS.seqw fun _ => ?_
    simp -implicitDefEqProofs (disch := first | omega | (simp only [St.set_n, St.up_n, List.length_cons, List.length_nil]; omega)) only [go_sem, Nat.reduceAdd, Nat.reduceMul, Nat.reduceSub, Int.reduceAdd, Int.reduceMul, Int.reduceSub, Int.reduceNeg, Int.reduceToNat]
    refine SemS.block (SemS.loop (fun m e s => ∃ (i : Nat) (v' : Value), m = 8 - i ∧ i ≤ 8 ∧ RsO (.slice a l.length cap) v' i e ∧ RsS σ l i v' s) 8 ?_ ?_)
    · exact ⟨0, .slice none 0 0, by omega, by omega, ⟨by simp -implicitDefEqProofs (disch := first | omega | (simp only [St.set_n, St.up_n, List.length_cons, List.length_nil]; omega)) only [go_sem, Nat.reduceAdd, Nat.reduceMul, Nat.reduceSub, Int.reduceAdd, Int.reduceMul, Int.reduceSub, Int.reduceNeg, Int.reduceToNat], by simp -implicitDefEqProofs (disch := first | omega | (simp only [St.set_n, St.up_n, List.length_cons, List.length_nil]; omega)) only [go_sem, Nat.reduceAdd, Nat.reduceMul, Nat.reduceSub, Int.reduceAdd, Int.reduceMul, Int.reduceSub, Int.reduceNeg, Int.reduceToNat], by simp -implicitDefEqProofs (disch := first | omega | (simp only [St.set_n, St.up_n, List.length_cons, List.length_nil]; omega)) only [go_sem, Nat.reduceAdd, Nat.reduceMul, Nat.reduceSub, Int.reduceAdd, Int.reduceMul, Int.reduceSub, Int.reduceNeg, Int.reduceToNat], by simp -implicitDefEqProofs (disch := first | omega | (simp only [St.set_n, St.up_n, List.length_cons, List.length_nil]; omega)) only [go_sem, Nat.reduceAdd, Nat.reduceMul, Nat.reduceSub, Int.reduceAdd, Int.reduceMul, Int.reduceSub, Int.reduceNeg, Int.reduceToNat]; rfl, by simp -implicitDefEqProofs (disch := first | omega | (simp only [St.set_n, St.up_n, List.length_cons, List.length_nil]; omega)) only [go_sem, Nat.reduceAdd, Nat.reduceMul, Nat.reduceSub, Int.reduceAdd, Int.reduceMul, Int.reduceSub, Int.reduceNeg, Int.reduceToNat]⟩, ⟨Own.nil, fun c hc => rfl, Nat.le_refl _, fun b hb => (by cases hb)⟩⟩
    rintro m e s hws ⟨i, v', hm, hi, ⟨q0, q1, q5, q6, hd⟩, hS⟩
    refine SemS.seq (fun e s => RsO (.slice a l.length cap) v' i e ∧ RsS σ l i v' s ∧ i < 8) (SemS.wp fun _ => ?_) ?_
    · by_cases hlt : (i : Int) < 8
      · simp -implicitDefEqProofs (disch := first | omega | (simp only [St.set_n, St.up_n, List.length_cons, List.length_nil]; omega)) only [go_sem, Nat.reduceAdd, Nat.reduceMul, Nat.reduceSub, Int.reduceAdd, Int.reduceMul, Int.reduceSub, Int.reduceNeg, Int.reduceToNat, q1, q6, hlt]
        exact ⟨_, To.refl _ _, ⟨by simp -implicitDefEqProofs (disch := first | omega | (simp only [St.set_n, St.up_n, List.length_cons, List.length_nil]; omega)) only [go_sem, Nat.reduceAdd, Nat.reduceMul, Nat.reduceSub, Int.reduceAdd, Int.reduceMul, Int.reduceSub, Int.reduceNeg, Int.reduceToNat, q0], by simp -implicitDefEqProofs (disch := first | omega | (simp only [St.set_n, St.up_n, List.length_cons, List.length_nil]; omega)) only [go_sem, Nat.reduceAdd, Nat.reduceMul, Nat.reduceSub, Int.reduceAdd, Int.reduceMul, Int.reduceSub, Int.reduceNeg, Int.reduceToNat, q1], by simp -implicitDefEqProofs (disch := first | omega | (simp only [St.set_n, St.up_n, List.length_cons, List.length_nil]; omega)) only [go_sem, Nat.reduceAdd, Nat.reduceMul, Nat.reduceSub, Int.reduceAdd, Int.reduceMul, Int.reduceSub, Int.reduceNeg, Int.reduceToNat, q5], by simp -implicitDefEqProofs (disch := first | omega | (simp only [St.set_n, St.up_n, List.length_cons, List.length_nil]; omega)) only [go_sem, Nat.reduceAdd, Nat.reduceMul, Nat.reduceSub, Int.reduceAdd, Int.reduceMul, Int.reduceSub, Int.reduceNeg, Int.reduceToNat, q6], by simp -implicitDefEqProofs (disch := first | omega | (simp only [St.set_n, St.up_n, List.length_cons, List.length_nil]; omega)) only [go_sem, Nat.reduceAdd, Nat.reduceMul, Nat.reduceSub, Int.reduceAdd, Int.reduceMul, Int.reduceSub, Int.reduceNeg, Int.reduceToNat, hd]⟩, hS, by omega⟩
      · have : i = 8 := by omega
        subst this
        simp -implicitDefEqProofs (disch := first | omega | (simp only [St.set_n, St.up_n, List.length_cons, List.length_nil]; omega)) only [go_sem, Nat.reduceAdd, Nat.reduceMul, Nat.reduceSub, Int.reduceAdd, Int.reduceMul, Int.reduceSub, Int.reduceNeg, Int.reduceToNat, q1, q6, hlt]
        exact ⟨_, To.refl _ _, v', ⟨by simp -implicitDefEqProofs (disch := first | omega | (simp only [St.set_n, St.up_n, List.length_cons, List.length_nil]; omega)) only [go_sem, Nat.reduceAdd, Nat.reduceMul, Nat.reduceSub, Int.reduceAdd, Int.reduceMul, Int.reduceSub, Int.reduceNeg, Int.reduceToNat, q0], by simp -implicitDefEqProofs (disch := first | omega | (simp only [St.set_n, St.up_n, List.length_cons, List.length_nil]; omega)) only [go_sem, Nat.reduceAdd, Nat.reduceMul, Nat.reduceSub, Int.reduceAdd, Int.reduceMul, Int.reduceSub, Int.reduceNeg, Int.reduceToNat, q1], by simp -implicitDefEqProofs (disch := first | omega | (simp only [St.set_n, St.up_n, List.length_cons, List.length_nil]; omega)) only [go_sem, Nat.reduceAdd, Nat.reduceMul, Nat.reduceSub, Int.reduceAdd, Int.reduceMul, Int.reduceSub, Int.reduceNeg, Int.reduceToNat, q5], by simp -implicitDefEqProofs (disch := first | omega | (simp only [St.set_n, St.up_n, List.length_cons, List.length_nil]; omega)) only [go_sem, Nat.reduceAdd, Nat.reduceMul, Nat.reduceSub, Int.reduceAdd, Int.reduceMul, Int.reduceSub, Int.reduceNeg, Int.reduceToNat, q6], by simp -implicitDefEqProofs (disch := first | omega | (simp only [St.set_n, St.up_n, List.length_cons, List.length_nil]; omega)) only [go_sem, Nat.reduceAdd, Nat.reduceMul, Nat.reduceSub, Int.reduceAdd, Int.reduceMul, Int.reduceSub, Int.reduceNeg, Int.reduceToNat, hd]⟩, hS⟩
    clear hS q0 q1 q5 q6 hd hws
    rintro e s hws ⟨⟨q0, q1, q5, q6, hd⟩, hS, hlt⟩
    refine SemS.seq (fun e s => ∃ v2, RsO (.slice a l.length cap) v2 i e ∧ RsS σ l (i + 1) v2 s) ?_ ?_
    · refine SemS.block (SemS.seqw fun _ => ?_)
      simp -implicitDefEqProofs (disch := first | omega | (simp only [St.set_n, St.up_n, List.length_cons, List.length_nil]; omega)) only [go_sem, Nat.reduceAdd, Nat.reduceMul, Nat.reduceSub, Int.reduceAdd, Int.reduceMul, Int.reduceSub, Int.reduceNeg, Int.reduceToNat]
      refine SemS.block (SemS.loop (fun m e s' => ∃ (k : Nat), m = l.length - k ∧ k ≤ l.length ∧ RsI (.slice a l.length cap) v' i k e ∧ s' = s ∧ ∀ j y, j < k → l[j]? = some y → ¬ (y.tmod 8 + 8).tmod 8 = (i : Int)) l.length ?_ ?_)
      · exact ⟨0, by omega, by omega, ⟨by simp -implicitDefEqProofs (disch := first | omega | (simp only [St.set_n, St.up_n, List.length_cons, List.length_nil]; omega)) only [go_sem, Nat.reduceAdd, Nat.reduceMul, Nat.reduceSub, Int.reduceAdd, Int.reduceMul, Int.reduceSub, Int.reduceNeg, Int.reduceToNat, q0], by simp -implicitDefEqProofs (disch := first | omega | (simp only [St.set_n, St.up_n, List.length_cons, List.length_nil]; omega)) only [go_sem, Nat.reduceAdd, Nat.reduceMul, Nat.reduceSub, Int.reduceAdd, Int.reduceMul, Int.reduceSub, Int.reduceNeg, Int.reduceToNat, q1], by simp -implicitDefEqProofs (disch := first | omega | (simp only [St.set_n, St.up_n, List.length_cons, List.length_nil]; omega)) only [go_sem, Nat.reduceAdd, Nat.reduceMul, Nat.reduceSub, Int.reduceAdd, Int.reduceMul, Int.reduceSub, Int.reduceNeg, Int.reduceToNat, q5], by simp -implicitDefEqProofs (disch := first | omega | (simp only [St.set_n, St.up_n, List.length_cons, List.length_nil]; omega)) only [go_sem, Nat.reduceAdd, Nat.reduceMul, Nat.reduceSub, Int.reduceAdd, Int.reduceMul, Int.reduceSub, Int.reduceNeg, Int.reduceToNat, q6], by simp -implicitDefEqProofs (disch := first | omega | (simp only [St.set_n, St.up_n, List.length_cons, List.length_nil]; omega)) only [go_sem, Nat.reduceAdd, Nat.reduceMul, Nat.reduceSub, Int.reduceAdd, Int.reduceMul, Int.reduceSub, Int.reduceNeg, Int.reduceToNat]; rfl, by simp -implicitDefEqProofs (disch := first | omega | (simp only [St.set_n, St.up_n, List.length_cons, List.length_nil]; omega)) only [go_sem, Nat.reduceAdd, Nat.reduceMul, Nat.reduceSub, Int.reduceAdd, Int.reduceMul, Int.reduceSub, Int.reduceNeg, Int.reduceToNat, hd]⟩, rfl, fun j y hj => by omega⟩
      clear q0 q1 q5 q6 hd
      rintro m2 e s' hws' ⟨k, hm2, hk, ⟨q0, q1, q5, q6, q7, hd⟩, rfl, hall⟩
      refine SemS.wp fun _ => ?_
      by_cases hkl : (k : Int) < l.length
      · obtain ⟨x, hx⟩ : ∃ x, l[k]? = some x := ⟨l[k]'(by omega), List.getElem?_eq_getElem (by omega)⟩
        obtain ⟨b, o, cs, rfl, hbb, hRx, hsz, hcell⟩ := hat k x hx
        simp only [RInt] at hRx
        subst hRx
        have c0 : B.cell? ⟨b, o + k * 1, none⟩ = _ := hcell 0 _ rfl
        rw [Nat.mul_one] at c0
        have hsb : s'.m b = none := by
          cases hx : s'.m b with
          | none => rfl
          | some y => have := (hws'.2 _ _ hx).1; omega
        obtain ⟨t1, t2⟩ := tm8 x
        by_cases hh : (x.tmod 8 + 8).tmod 8 = (i : Int)
        · simp -implicitDefEqProofs (disch := first | omega | (simp only [St.set_n, St.up_n, List.length_cons, List.length_nil]; omega)) only [go_sem, Nat.reduceAdd, Nat.reduceMul, Nat.reduceSub, Int.reduceAdd, Int.reduceMul, Int.reduceSub, Int.reduceNeg, Int.reduceToNat, q0, q1, q5, q6, q7, hkl, hsb, hbb, c0, hh]
          have hrl := rise_len l i
          have hhit : hit l i = true := List.any_eq_true.2 ⟨x, List.mem_of_getElem? hx, by simpa using hh⟩
          refine appE hws' hS.o se22 kd22 zr3 rfl (by omega) (ys := [.int .i64 i]) rfl rfl (by omega) fun A' C' s2 hC' o2 heq hb1 hn2 hws2 => ?_
          simp -implicitDefEqProofs (disch := first | omega | (simp only [St.set_n, St.up_n, List.length_cons, List.length_nil]; omega)) only [go_sem, Nat.reduceAdd, Nat.reduceMul, Nat.reduceSub, Int.reduceAdd, Int.reduceMul, Int.reduceSub, Int.reduceNeg, Int.reduceToNat]
          refine ⟨_, To.refl _ _, .slice A' ((rise l i).length + 1) C', ⟨by simp -implicitDefEqProofs (disch := first | omega | (simp only [St.set_n, St.up_n, List.length_cons, List.length_nil]; omega)) only [go_sem, Nat.reduceAdd, Nat.reduceMul, Nat.reduceSub, Int.reduceAdd, Int.reduceMul, Int.reduceSub, Int.reduceNeg, Int.reduceToNat, q0], by simp -implicitDefEqProofs (disch := first | omega | (simp only [St.set_n, St.up_n, List.length_cons, List.length_nil]; omega)) only [go_sem, Nat.reduceAdd, Nat.reduceMul, Nat.reduceSub, Int.reduceAdd, Int.reduceMul, Int.reduceSub, Int.reduceNeg, Int.reduceToNat, q1], by simp -implicitDefEqProofs (disch := first | omega | (simp only [St.set_n, St.up_n, List.length_cons, List.length_nil]; omega)) only [go_sem, Nat.reduceAdd, Nat.reduceMul, Nat.reduceSub, Int.reduceAdd, Int.reduceMul, Int.reduceSub, Int.reduceNeg, Int.reduceToNat], by simp -implicitDefEqProofs (disch := first | omega | (simp only [St.set_n, St.up_n, List.length_cons, List.length_nil]; omega)) only [go_sem, Nat.reduceAdd, Nat.reduceMul, Nat.reduceSub, Int.reduceAdd, Int.reduceMul, Int.reduceSub, Int.reduceNeg, Int.reduceToNat, q6], by simp -implicitDefEqProofs (disch := first | omega | (simp only [St.set_n, St.up_n, List.length_cons, List.length_nil]; omega)) only [go_sem, Nat.reduceAdd, Nat.reduceMul, Nat.reduceSub, Int.reduceAdd, Int.reduceMul, Int.reduceSub, Int.reduceNeg, Int.reduceToNat, hd]⟩, ?_, fun c hc => ?_, by have := hS.n; omega, fun b hb => ?_⟩
          · have e1 : rise l (i + 1) = rise l i ++ [(i : Int)] := by rw [rise, hhit]; rfl
            rw [e1, ints_app, List.length_append]
            exact o2
          · rw [heq c (by have := hS.n; omega) (fun e => by have := hS.b c e; omega)]
            exact hS.old c hc
          · rcases hb1 b hb with h | h
            · have := hS.n; omega
            · exact hS.b b h
        · simp -implicitDefEqProofs (disch := first | omega | (simp only [St.set_n, St.up_n, List.length_cons, List.length_nil]; omega)) only [go_sem, Nat.reduceAdd, Nat.reduceMul, Nat.reduceSub, Int.reduceAdd, Int.reduceMul, Int.reduceSub, Int.reduceNeg, Int.reduceToNat, q0, q1, q5, q6, q7, hkl, hsb, hbb, c0, hh]
          refine ⟨l.length - (k + 1), by omega, _, To.refl _ _, k + 1, rfl, by omega, ⟨by simp -implicitDefEqProofs (disch := first | omega | (simp only [St.set_n, St.up_n, List.length_cons, List.length_nil]; omega)) only [go_sem, Nat.reduceAdd, Nat.reduceMul, Nat.reduceSub, Int.reduceAdd, Int.reduceMul, Int.reduceSub, Int.reduceNeg, Int.reduceToNat, q0], by simp -implicitDefEqProofs (disch := first | omega | (simp only [St.set_n, St.up_n, List.length_cons, List.length_nil]; omega)) only [go_sem, Nat.reduceAdd, Nat.reduceMul, Nat.reduceSub, Int.reduceAdd, Int.reduceMul, Int.reduceSub, Int.reduceNeg, Int.reduceToNat, q1], by simp -implicitDefEqProofs (disch := first | omega | (simp only [St.set_n, St.up_n, List.length_cons, List.length_nil]; omega)) only [go_sem, Nat.reduceAdd, Nat.reduceMul, Nat.reduceSub, Int.reduceAdd, Int.reduceMul, Int.reduceSub, Int.reduceNeg, Int.reduceToNat, q5], by simp -implicitDefEqProofs (disch := first | omega | (simp only [St.set_n, St.up_n, List.length_cons, List.length_nil]; omega)) only [go_sem, Nat.reduceAdd, Nat.reduceMul, Nat.reduceSub, Int.reduceAdd, Int.reduceMul, Int.reduceSub, Int.reduceNeg, Int.reduceToNat, q6], by simp -implicitDefEqProofs (disch := first | omega | (simp only [St.set_n, St.up_n, List.length_cons, List.length_nil]; omega)) only [go_sem, Nat.reduceAdd, Nat.reduceMul, Nat.reduceSub, Int.reduceAdd, Int.reduceMul, Int.reduceSub, Int.reduceNeg, Int.reduceToNat]; rfl, by simp -implicitDefEqProofs (disch := first | omega | (simp only [St.set_n, St.up_n, List.length_cons, List.length_nil]; omega)) only [go_sem, Nat.reduceAdd, Nat.reduceMul, Nat.reduceSub, Int.reduceAdd, Int.reduceMul, Int.reduceSub, Int.reduceNeg, Int.reduceToNat, hd]⟩, rfl, fun j y hj hy => ?_⟩
          by_cases hjk : j = k
          · subst hjk; rw [hx] at hy; cases hy; exact hh
          · exact hall j y (by omega) hy
      · have hke : k = l.length := by omega
        have hhit : hit l i = false := by
          unfold hit
          rw [List.any_eq_false]
          intro y hy
          obtain ⟨j, hj⟩ := List.getElem?_of_mem hy
          have := hall j y (by have := (List.getElem?_eq_some_iff.1 hj).1; omega) hj
          simpa using this
        simp -implicitDefEqProofs (disch := first | omega | (simp only [St.set_n, St.up_n, List.length_cons, List.length_nil]; omega)) only [go_sem, Nat.reduceAdd, Nat.reduceMul, Nat.reduceSub, Int.reduceAdd, Int.reduceMul, Int.reduceSub, Int.reduceNeg, Int.reduceToNat, q0, q7, hkl]
        refine ⟨_, To.refl _ _, v', ⟨by simp -implicitDefEqProofs (disch := first | omega | (simp only [St.set_n, St.up_n, List.length_cons, List.length_nil]; omega)) only [go_sem, Nat.reduceAdd, Nat.reduceMul, Nat.reduceSub, Int.reduceAdd, Int.reduceMul, Int.reduceSub, Int.reduceNeg, Int.reduceToNat, q0], by simp -implicitDefEqProofs (disch := first | omega | (simp only [St.set_n, St.up_n, List.length_cons, List.length_nil]; omega)) only [go_sem, Nat.reduceAdd, Nat.reduceMul, Nat.reduceSub, Int.reduceAdd, Int.reduceMul, Int.reduceSub, Int.reduceNeg, Int.reduceToNat, q1], by simp -implicitDefEqProofs (disch := first | omega | (simp only [St.set_n, St.up_n, List.length_cons, List.length_nil]; omega)) only [go_sem, Nat.reduceAdd, Nat.reduceMul, Nat.reduceSub, Int.reduceAdd, Int.reduceMul, Int.reduceSub, Int.reduceNeg, Int.reduceToNat, q5], by simp -implicitDefEqProofs (disch := first | omega | (simp only [St.set_n, St.up_n, List.length_cons, List.length_nil]; omega)) only [go_sem, Nat.reduceAdd, Nat.reduceMul, Nat.reduceSub, Int.reduceAdd, Int.reduceMul, Int.reduceSub, Int.reduceNeg, Int.reduceToNat, q6], by simp -implicitDefEqProofs (disch := first | omega | (simp only [St.set_n, St.up_n, List.length_cons, List.length_nil]; omega)) only [go_sem, Nat.reduceAdd, Nat.reduceMul, Nat.reduceSub, Int.reduceAdd, Int.reduceMul, Int.reduceSub, Int.reduceNeg, Int.reduceToNat, hd]⟩, ?_, hS.old, hS.n, hS.b⟩
        have e1 : rise l (i + 1) = rise l i := by rw [rise, hhit]; simp
        rw [e1]; exact hS.o
    · rintro e s2 hws2 ⟨v2, ⟨q0, q1, q5, q6, hd⟩, hS2⟩
      refine SemS.wp fun _ => ?_
      simp -implicitDefEqProofs (disch := first | omega | (simp only [St.set_n, St.up_n, List.length_cons, List.length_nil]; omega)) only [go_sem, Nat.reduceAdd, Nat.reduceMul, Nat.reduceSub, Int.reduceAdd, Int.reduceMul, Int.reduceSub, Int.reduceNeg, Int.reduceToNat, q6]
      exact ⟨8 - (i + 1), by omega, _, To.refl _ _, i + 1, v2, rfl, by omega, ⟨by simp -implicitDefEqProofs (disch := first | omega | (simp only [St.set_n, St.up_n, List.length_cons, List.length_nil]; omega)) only [go_sem, Nat.reduceAdd, Nat.reduceMul, Nat.reduceSub, Int.reduceAdd, Int.reduceMul, Int.reduceSub, Int.reduceNeg, Int.reduceToNat, q0], by simp -implicitDefEqProofs (disch := first | omega | (simp only [St.set_n, St.up_n, List.length_cons, List.length_nil]; omega)) only [go_sem, Nat.reduceAdd, Nat.reduceMul, Nat.reduceSub, Int.reduceAdd, Int.reduceMul, Int.reduceSub, Int.reduceNeg, Int.reduceToNat, q1], by simp -implicitDefEqProofs (disch := first | omega | (simp only [St.set_n, St.up_n, List.length_cons, List.length_nil]; omega)) only [go_sem, Nat.reduceAdd, Nat.reduceMul, Nat.reduceSub, Int.reduceAdd, Int.reduceMul, Int.reduceSub, Int.reduceNeg, Int.reduceToNat, q5], by simp -implicitDefEqProofs (disch := first | omega | (simp only [St.set_n, St.up_n, List.length_cons, List.length_nil]; omega)) only [go_sem, Nat.reduceAdd, Nat.reduceMul, Nat.reduceSub, Int.reduceAdd, Int.reduceMul, Int.reduceSub, Int.reduceNeg, Int.reduceToNat]; rfl, by simp -implicitDefEqProofs (disch := first | omega | (simp only [St.set_n, St.up_n, List.length_cons, List.length_nil]; omega)) only [go_sem, Nat.reduceAdd, Nat.reduceMul, Nat.reduceSub, Int.reduceAdd, Int.reduceMul, Int.reduceSub, Int.reduceNeg, Int.reduceToNat, hd]⟩, hS2⟩
  · rintro e s hws ⟨v', ⟨q0, q1, q5, q6, hd⟩, hS⟩
    refine SemS.wp fun _ => ?_
    simp -implicitDefEqProofs (disch := first | omega | (simp only [St.set_n, St.up_n, List.length_cons, List.length_nil]; omega)) only [go_sem, Nat.reduceAdd, Nat.reduceMul, Nat.reduceSub, Int.reduceAdd, Int.reduceMul, Int.reduceSub, Int.reduceNeg, Int.reduceToNat, q5, hd]
    exact ⟨_, To.refl _ _, hK _ _ hS.o hS.old hS.n hS.b⟩
/-- A slice of numbers that can be read. -/
structure RdO (s : St) (v : Value) (os : List Int) : Prop where
  is : ∃ A cap, v = .slice A os.length cap ∧ (os ≠ [] → ∃ b o cs ty, A = some ⟨b, o, none⟩ ∧ s.m b = some (.raw (.cells cs ty (0, 0))) ∧ ∀ j x, os[j]? = some x → cs[o + j]? = some (.int .i64 x))
theorem RdO.own {s : St} {v : Value} {os : List Int} (h : Own s 3 1 (ints os) os.length v) : RdO s v os := by
  obtain ⟨A, c, rfl, hc⟩ := h.is
  refine ⟨A, c, rfl, fun hne => ?_⟩
  have hl : 0 < os.length := by cases os with | nil => exact absurd rfl hne | cons a l => simp
  obtain ⟨b, c1, sp, e1, _, m1, _, _⟩ := h.has hl
  cases e1
  exact ⟨b, 0, _, _, rfl, m1, fun j x hj => by rw [Nat.zero_add, List.getElem?_toArray]; exact ints_get hj sp⟩
theorem RdO.ord {L : Lg B} {h : HF} {s : St} {v : Value} {os : List Int} {G : Nat → Prop} {u : L.U} (ho : OrdV L h v os) (he : Env L h G u s) : RdO s v os := by
  obtain ⟨A, c, rfl, hc, h1⟩ := ho.is
  exact ⟨A, c, rfl, fun hne => let ⟨b, o, cs, ty, e, hb, hx⟩ := h1 hne; ⟨b, o, cs, ty, e, hb _ _ _ he, hx⟩⟩
def commonB (a b : List Int) : Bool := a.any fun x => b.any fun y => decide (x = y)
structure CmO (v0 v1 : Value) (i : Nat) (e : Fr) : Prop where
  v0 : e.v 0 = v0
  v1 : e.v 1 = v1
  v5 : e.v 5 = .int .i64 i
  d : e.d = []
structure CmI (v0 v1 : Value) (i k : Nat) (e : Fr) : Prop where
  v0 : e.v 0 = v0
  v1 : e.v 1 = v1
  v5 : e.v 5 = .int .i64 i
  v6 : e.v 6 = .int .i64 k
  d : e.d = []
set_option maxHeartbeats 4000000 in
theorem common_of {a b : List Int} {v v' : Value} (ha : RdO σ v a) (hb : RdO σ v' b) (hla : a.length ≤ 1000000) (hlb : b.length ≤ 1000000) (hK : K (.bool (commonB a b)) σ) : Fn Try.prog B 14 #[v, v'] σ K := by
  obtain ⟨A, c, rfl, hA⟩ := ha.is
  obtain ⟨A', c', rfl, hA'⟩ := hb.is
  refine Fn.ofS is14 (by simp) fun hwf => ?_
  simp only [b14, Try.f14, Option.getD_some]
  refine SemS.seqw fun _ => ?_
  simp -implicitDefEqProofs (disch := first | omega | (simp only [St.set_n, St.up_n, List.length_cons, List.length_nil]; omega)) only [go_sem, Nat.reduceAdd, Nat.reduceMul, Nat.reduceSub, Int.reduceAdd, Int.reduceMul, Int.reduceSub, Int.reduceNeg, Int.reduceToNat]
  refine SemS.seq (fun e s => s = σ ∧ e.d = [] ∧ commonB a b = false) ?_ ?_
  · refine SemS.seqw fun _ => ?_
    simp -implicitDefEqProofs (disch := first | omega | (simp only [St.set_n, St.up_n, List.length_cons, List.length_nil]; omega)) only [go_sem, Nat.reduceAdd, Nat.reduceMul, Nat.reduceSub, Int.reduceAdd, Int.reduceMul, Int.reduceSub, Int.reduceNeg, Int.reduceToNat]
    refine SemS.block (SemS.loop (fun m e s => ∃ (i : Nat), m = a.length - i ∧ i ≤ a.length ∧ CmO (.slice A a.length c) (.slice A' b.length c') i e ∧ s = σ ∧ ∀ j x, j < i → a[j]? = some x → ∀ y ∈ b, ¬ x = y) a.length ?_ ?_)
    · exact ⟨0, by omega, by omega, ⟨by simp -implicitDefEqProofs (disch := first | omega | (simp only [St.set_n, St.up_n, List.length_cons, List.length_nil]; omega)) only [go_sem, Nat.reduceAdd, Nat.reduceMul, Nat.reduceSub, Int.reduceAdd, Int.reduceMul, Int.reduceSub, Int.reduceNeg, Int.reduceToNat], by simp -implicitDefEqProofs (disch := first | omega | (simp only [St.set_n, St.up_n, List.length_cons, List.length_nil]; omega)) only [go_sem, Nat.reduceAdd, Nat.reduceMul, Nat.reduceSub, Int.reduceAdd, Int.reduceMul, Int.reduceSub, Int.reduceNeg, Int.reduceToNat], by simp -implicitDefEqProofs (disch := first | omega | (simp only [St.set_n, St.up_n, List.length_cons, List.length_nil]; omega)) only [go_sem, Nat.reduceAdd, Nat.reduceMul, Nat.reduceSub, Int.reduceAdd, Int.reduceMul, Int.reduceSub, Int.reduceNeg, Int.reduceToNat]; rfl, by simp -implicitDefEqProofs (disch := first | omega | (simp only [St.set_n, St.up_n, List.length_cons, List.length_nil]; omega)) only [go_sem, Nat.reduceAdd, Nat.reduceMul, Nat.reduceSub, Int.reduceAdd, Int.reduceMul, Int.reduceSub, Int.reduceNeg, Int.reduceToNat]⟩, rfl, fun j x hj => by omega⟩
    rintro m e s hws ⟨i, hm, hi, ⟨q0, q1, q5, hd⟩, rfl, hall⟩
    refine SemS.seq (fun e s' => CmO (.slice A a.length c) (.slice A' b.length c') i e ∧ s' = s ∧ i < a.length) (SemS.wp fun _ => ?_) ?_
    · by_cases hlt : (i : Int) < a.length
      · simp -implicitDefEqProofs (disch := first | omega | (simp only [St.set_n, St.up_n, List.length_cons, List.length_nil]; omega)) only [go_sem, Nat.reduceAdd, Nat.reduceMul, Nat.reduceSub, Int.reduceAdd, Int.reduceMul, Int.reduceSub, Int.reduceNeg, Int.reduceToNat, q0, q5, hlt]
        exact ⟨_, To.refl _ _, ⟨by simp -implicitDefEqProofs (disch := first | omega | (simp only [St.set_n, St.up_n, List.length_cons, List.length_nil]; omega)) only [go_sem, Nat.reduceAdd, Nat.reduceMul, Nat.reduceSub, Int.reduceAdd, Int.reduceMul, Int.reduceSub, Int.reduceNeg, Int.reduceToNat, q0], by simp -implicitDefEqProofs (disch := first | omega | (simp only [St.set_n, St.up_n, List.length_cons, List.length_nil]; omega)) only [go_sem, Nat.reduceAdd, Nat.reduceMul, Nat.reduceSub, Int.reduceAdd, Int.reduceMul, Int.reduceSub, Int.reduceNeg, Int.reduceToNat, q1], by simp -implicitDefEqProofs (disch := first | omega | (simp only [St.set_n, St.up_n, List.length_cons, List.length_nil]; omega)) only [go_sem, Nat.reduceAdd, Nat.reduceMul, Nat.reduceSub, Int.reduceAdd, Int.reduceMul, Int.reduceSub, Int.reduceNeg, Int.reduceToNat, q5], by simp -implicitDefEqProofs (disch := first | omega | (simp only [St.set_n, St.up_n, List.length_cons, List.length_nil]; omega)) only [go_sem, Nat.reduceAdd, Nat.reduceMul, Nat.reduceSub, Int.reduceAdd, Int.reduceMul, Int.reduceSub, Int.reduceNeg, Int.reduceToNat, hd]⟩, rfl, by omega⟩
      · simp -implicitDefEqProofs (disch := first | omega | (simp only [St.set_n, St.up_n, List.length_cons, List.length_nil]; omega)) only [go_sem, Nat.reduceAdd, Nat.reduceMul, Nat.reduceSub, Int.reduceAdd, Int.reduceMul, Int.reduceSub, Int.reduceNeg, Int.reduceToNat, q0, q5, hlt]
        refine ⟨_, To.refl _ _, rfl, by simp -implicitDefEqProofs (disch := first | omega | (simp only [St.set_n, St.up_n, List.length_cons, List.length_nil]; omega)) only [go_sem, Nat.reduceAdd, Nat.reduceMul, Nat.reduceSub, Int.reduceAdd, Int.reduceMul, Int.reduceSub, Int.reduceNeg, Int.reduceToNat, hd], ?_⟩
        unfold commonB
        rw [List.any_eq_false]
        intro x hx
        obtain ⟨j, hj⟩ := List.getElem?_of_mem hx
        simp only [List.any_eq_true, decide_eq_true_eq, not_exists, not_and]
        exact fun y hy => hall j x (by have := (List.getElem?_eq_some_iff.1 hj).1; omega) hj y hy
    clear q0 q1 q5 hd
    rintro e s' hws' ⟨⟨q0, q1, q5, hd⟩, rfl, hlt⟩
    obtain ⟨x, hx⟩ : ∃ x, a[i]? = some x := ⟨a[i]'(by omega), List.getElem?_eq_getElem (by omega)⟩
    obtain ⟨b1, o1, cs1, ty1, rfl, m1, g1⟩ := hA (fun e => by rw [e] at hlt; simp at hlt)
    have x1 := g1 i x hx
    have hlt' : (i : Int) < a.length := by omega
    refine SemS.seq (fun e s2 => CmO (.slice (some ⟨b1, o1, none⟩) a.length c) (.slice A' b.length c') i e ∧ s2 = s' ∧ ∀ y ∈ b, ¬ x = y) ?_ ?_
    · refine SemS.block (SemS.seqw fun _ => ?_)
      simp -implicitDefEqProofs (disch := first | omega | (simp only [St.set_n, St.up_n, List.length_cons, List.length_nil]; omega)) only [go_sem, Nat.reduceAdd, Nat.reduceMul, Nat.reduceSub, Int.reduceAdd, Int.reduceMul, Int.reduceSub, Int.reduceNeg, Int.reduceToNat]
      refine SemS.block (SemS.loop (fun m e s2 => ∃ (k : Nat), m = b.length - k ∧ k ≤ b.length ∧ CmI (.slice (some ⟨b1, o1, none⟩) a.length c) (.slice A' b.length c') i k e ∧ s2 = s' ∧ ∀ j y, j < k → b[j]? = some y → ¬ x = y) b.length ?_ ?_)
      · exact ⟨0, by omega, by omega, ⟨by simp -implicitDefEqProofs (disch := first | omega | (simp only [St.set_n, St.up_n, List.length_cons, List.length_nil]; omega)) only [go_sem, Nat.reduceAdd, Nat.reduceMul, Nat.reduceSub, Int.reduceAdd, Int.reduceMul, Int.reduceSub, Int.reduceNeg, Int.reduceToNat, q0], by simp -implicitDefEqProofs (disch := first | omega | (simp only [St.set_n, St.up_n, List.length_cons, List.length_nil]; omega)) only [go_sem, Nat.reduceAdd, Nat.reduceMul, Nat.reduceSub, Int.reduceAdd, Int.reduceMul, Int.reduceSub, Int.reduceNeg, Int.reduceToNat, q1], by simp -implicitDefEqProofs (disch := first | omega | (simp only [St.set_n, St.up_n, List.length_cons, List.length_nil]; omega)) only [go_sem, Nat.reduceAdd, Nat.reduceMul, Nat.reduceSub, Int.reduceAdd, Int.reduceMul, Int.reduceSub, Int.reduceNeg, Int.reduceToNat, q5], by simp -implicitDefEqProofs (disch := first | omega | (simp only [St.set_n, St.up_n, List.length_cons, List.length_nil]; omega)) only [go_sem, Nat.reduceAdd, Nat.reduceMul, Nat.reduceSub, Int.reduceAdd, Int.reduceMul, Int.reduceSub, Int.reduceNeg, Int.reduceToNat]; rfl, by simp -implicitDefEqProofs (disch := first | omega | (simp only [St.set_n, St.up_n, List.length_cons, List.length_nil]; omega)) only [go_sem, Nat.reduceAdd, Nat.reduceMul, Nat.reduceSub, Int.reduceAdd, Int.reduceMul, Int.reduceSub, Int.reduceNeg, Int.reduceToNat, hd]⟩, rfl, fun j y hj => by omega⟩
      clear q0 q1 q5 hd
      rintro m2 e s2 hws2 ⟨k, hm2, hk, ⟨q0, q1, q5, q6, hd⟩, rfl, hall2⟩
      refine SemS.wp fun _ => ?_
      by_cases hkl : (k : Int) < b.length
      · obtain ⟨y, hy⟩ : ∃ y, b[k]? = some y := ⟨b[k]'(by omega), List.getElem?_eq_getElem (by omega)⟩
        obtain ⟨b2, o2, cs2, ty2, rfl, m2', g2⟩ := hA' (fun e => by rw [e] at hkl; simp at hkl; omega)
        have x2 := g2 k y hy
        by_cases hxy : x = y
        · subst hxy
          simp -implicitDefEqProofs (disch := first | omega | (simp only [St.set_n, St.up_n, List.length_cons, List.length_nil]; omega)) only [go_sem, Nat.reduceAdd, Nat.reduceMul, Nat.reduceSub, Int.reduceAdd, Int.reduceMul, Int.reduceSub, Int.reduceNeg, Int.reduceToNat, q0, q1, q5, q6, hlt', hkl, m1, x1, m2', x2]
          have : commonB a b = true := List.any_eq_true.2 ⟨x, List.mem_of_getElem? hx, List.any_eq_true.2 ⟨x, List.mem_of_getElem? hy, by simp⟩⟩
          rw [this] at hK
          simp -implicitDefEqProofs (disch := first | omega | (simp only [St.set_n, St.up_n, List.length_cons, List.length_nil]; omega)) only [go_sem, Nat.reduceAdd, Nat.reduceMul, Nat.reduceSub, Int.reduceAdd, Int.reduceMul, Int.reduceSub, Int.reduceNeg, Int.reduceToNat, hd]
          exact ⟨_, To.refl _ _, hK⟩
        · simp -implicitDefEqProofs (disch := first | omega | (simp only [St.set_n, St.up_n, List.length_cons, List.length_nil]; omega)) only [go_sem, Nat.reduceAdd, Nat.reduceMul, Nat.reduceSub, Int.reduceAdd, Int.reduceMul, Int.reduceSub, Int.reduceNeg, Int.reduceToNat, q0, q1, q5, q6, hlt', hkl, m1, x1, m2', x2, hxy]
          refine ⟨b.length - (k + 1), by omega, _, To.refl _ _, k + 1, rfl, by omega, ⟨by simp -implicitDefEqProofs (disch := first | omega | (simp only [St.set_n, St.up_n, List.length_cons, List.length_nil]; omega)) only [go_sem, Nat.reduceAdd, Nat.reduceMul, Nat.reduceSub, Int.reduceAdd, Int.reduceMul, Int.reduceSub, Int.reduceNeg, Int.reduceToNat, q0], by simp -implicitDefEqProofs (disch := first | omega | (simp only [St.set_n, St.up_n, List.length_cons, List.length_nil]; omega)) only [go_sem, Nat.reduceAdd, Nat.reduceMul, Nat.reduceSub, Int.reduceAdd, Int.reduceMul, Int.reduceSub, Int.reduceNeg, Int.reduceToNat, q1], by simp -implicitDefEqProofs (disch := first | omega | (simp only [St.set_n, St.up_n, List.length_cons, List.length_nil]; omega)) only [go_sem, Nat.reduceAdd, Nat.reduceMul, Nat.reduceSub, Int.reduceAdd, Int.reduceMul, Int.reduceSub, Int.reduceNeg, Int.reduceToNat, q5], by simp -implicitDefEqProofs (disch := first | omega | (simp only [St.set_n, St.up_n, List.length_cons, List.length_nil]; omega)) only [go_sem, Nat.reduceAdd, Nat.reduceMul, Nat.reduceSub, Int.reduceAdd, Int.reduceMul, Int.reduceSub, Int.reduceNeg, Int.reduceToNat]; rfl, by simp -implicitDefEqProofs (disch := first | omega | (simp only [St.set_n, St.up_n, List.length_cons, List.length_nil]; omega)) only [go_sem, Nat.reduceAdd, Nat.reduceMul, Nat.reduceSub, Int.reduceAdd, Int.reduceMul, Int.reduceSub, Int.reduceNeg, Int.reduceToNat, hd]⟩, rfl, fun j z hj hz => ?_⟩
          by_cases hjk : j = k
          · subst hjk; rw [hy] at hz; cases hz; exact hxy
          · exact hall2 j z (by omega) hz
      · simp -implicitDefEqProofs (disch := first | omega | (simp only [St.set_n, St.up_n, List.length_cons, List.length_nil]; omega)) only [go_sem, Nat.reduceAdd, Nat.reduceMul, Nat.reduceSub, Int.reduceAdd, Int.reduceMul, Int.reduceSub, Int.reduceNeg, Int.reduceToNat, q1, q6, hkl]
        refine ⟨_, To.refl _ _, ⟨by simp -implicitDefEqProofs (disch := first | omega | (simp only [St.set_n, St.up_n, List.length_cons, List.length_nil]; omega)) only [go_sem, Nat.reduceAdd, Nat.reduceMul, Nat.reduceSub, Int.reduceAdd, Int.reduceMul, Int.reduceSub, Int.reduceNeg, Int.reduceToNat, q0], by simp -implicitDefEqProofs (disch := first | omega | (simp only [St.set_n, St.up_n, List.length_cons, List.length_nil]; omega)) only [go_sem, Nat.reduceAdd, Nat.reduceMul, Nat.reduceSub, Int.reduceAdd, Int.reduceMul, Int.reduceSub, Int.reduceNeg, Int.reduceToNat, q1], by simp -implicitDefEqProofs (disch := first | omega | (simp only [St.set_n, St.up_n, List.length_cons, List.length_nil]; omega)) only [go_sem, Nat.reduceAdd, Nat.reduceMul, Nat.reduceSub, Int.reduceAdd, Int.reduceMul, Int.reduceSub, Int.reduceNeg, Int.reduceToNat, q5], by simp -implicitDefEqProofs (disch := first | omega | (simp only [St.set_n, St.up_n, List.length_cons, List.length_nil]; omega)) only [go_sem, Nat.reduceAdd, Nat.reduceMul, Nat.reduceSub, Int.reduceAdd, Int.reduceMul, Int.reduceSub, Int.reduceNeg, Int.reduceToNat, hd]⟩, rfl, fun y hy => ?_⟩
        obtain ⟨j, hj⟩ := List.getElem?_of_mem hy
        exact hall2 j y (by have := (List.getElem?_eq_some_iff.1 hj).1; omega) hj
    · rintro e s2 hws2 ⟨⟨q0, q1, q5, hd⟩, rfl, hno⟩
      refine SemS.wp fun _ => ?_
      simp -implicitDefEqProofs (disch := first | omega | (simp only [St.set_n, St.up_n, List.length_cons, List.length_nil]; omega)) only [go_sem, Nat.reduceAdd, Nat.reduceMul, Nat.reduceSub, Int.reduceAdd, Int.reduceMul, Int.reduceSub, Int.reduceNeg, Int.reduceToNat, q5]
      refine ⟨a.length - (i + 1), by omega, _, To.refl _ _, i + 1, rfl, by omega, ⟨by simp -implicitDefEqProofs (disch := first | omega | (simp only [St.set_n, St.up_n, List.length_cons, List.length_nil]; omega)) only [go_sem, Nat.reduceAdd, Nat.reduceMul, Nat.reduceSub, Int.reduceAdd, Int.reduceMul, Int.reduceSub, Int.reduceNeg, Int.reduceToNat, q0], by simp -implicitDefEqProofs (disch := first | omega | (simp only [St.set_n, St.up_n, List.length_cons, List.length_nil]; omega)) only [go_sem, Nat.reduceAdd, Nat.reduceMul, Nat.reduceSub, Int.reduceAdd, Int.reduceMul, Int.reduceSub, Int.reduceNeg, Int.reduceToNat, q1], by simp -implicitDefEqProofs (disch := first | omega | (simp only [St.set_n, St.up_n, List.length_cons, List.length_nil]; omega)) only [go_sem, Nat.reduceAdd, Nat.reduceMul, Nat.reduceSub, Int.reduceAdd, Int.reduceMul, Int.reduceSub, Int.reduceNeg, Int.reduceToNat]; rfl, by simp -implicitDefEqProofs (disch := first | omega | (simp only [St.set_n, St.up_n, List.length_cons, List.length_nil]; omega)) only [go_sem, Nat.reduceAdd, Nat.reduceMul, Nat.reduceSub, Int.reduceAdd, Int.reduceMul, Int.reduceSub, Int.reduceNeg, Int.reduceToNat, hd]⟩, rfl, fun j z hj hz => ?_⟩
      by_cases hji : j = i
      · subst hji; rw [hx] at hz; cases hz; exact hno
      · exact hall j z (by omega) hz
  · rintro e s hws ⟨rfl, hd, hc⟩
    refine SemS.wp fun _ => ?_
    rw [hc] at hK
    simp -implicitDefEqProofs (disch := first | omega | (simp only [St.set_n, St.up_n, List.length_cons, List.length_nil]; omega)) only [go_sem, Nat.reduceAdd, Nat.reduceMul, Nat.reduceSub, Int.reduceAdd, Int.reduceMul, Int.reduceSub, Int.reduceNeg, Int.reduceToNat, hd]
    exact ⟨_, To.refl _ _, hK⟩
theorem same_ints {l l' : List Int} {v v' : Value} (hbd : l.length < 4611686018427387904) (h : Own σ 3 1 (ints l) l.length v) (h' : Own σ 3 1 (ints l') l'.length v') (hK : K (.bool (decide (l = l'))) σ) : Fn Try.prog B 32 #[v, v'] σ K := by
  obtain ⟨a, cap, rfl, hc⟩ := h.is
  obtain ⟨a', cap', rfl, hc'⟩ := h'.is
  have hat : ∀ i x, l[i]? = some x → ∃ b, a = some ⟨b, 0, none⟩ ∧ ∃ c : Array Value, σ.m b = some (.raw (.cells c 3 (0, 0))) ∧ c[i]? = some (Value.int .i64 x) := fun i x hx => by
    obtain ⟨_, ⟨h2, h3⟩ | ⟨b, cap, sp, h2, _, h3, _⟩⟩ := h
    · rw [h3] at hc; have := (List.getElem?_eq_some_iff.1 hx).1; omega
    · cases h2; exact ⟨b, rfl, _, h3, by rw [List.getElem?_toArray]; exact ints_get hx sp⟩
  have hat' : ∀ i x, l'[i]? = some x → ∃ b, a' = some ⟨b, 0, none⟩ ∧ ∃ c : Array Value, σ.m b = some (.raw (.cells c 3 (0, 0))) ∧ c[i]? = some (Value.int .i64 x) := fun i x hx => by
    obtain ⟨_, ⟨h2, h3⟩ | ⟨b, cap, sp, h2, _, h3, _⟩⟩ := h'
    · rw [h3] at hc'; have := (List.getElem?_eq_some_iff.1 hx).1; omega
    · cases h2; exact ⟨b, rfl, _, h3, by rw [List.getElem?_toArray]; exact ints_get hx sp⟩
  refine Fn.of is32 (by simp) fun hwf => ?_
  simp only [b32, Try.f32, Option.getD_some]
  simp -implicitDefEqProofs (disch := first | omega | (simp only [St.set_n, St.up_n, List.length_cons, List.length_nil]; omega)) only [go_sem, Nat.reduceAdd, Nat.reduceMul, Nat.reduceSub, Int.reduceAdd, Int.reduceMul, Int.reduceSub, Int.reduceNeg, Int.reduceToNat]
  by_cases hll : l.length = l'.length
  · have hll' : (l.length : Int) = l'.length := by omega
    simp -implicitDefEqProofs (disch := first | omega | (simp only [St.set_n, St.up_n, List.length_cons, List.length_nil]; omega)) only [go_sem, Nat.reduceAdd, Nat.reduceMul, Nat.reduceSub, Int.reduceAdd, Int.reduceMul, Int.reduceSub, Int.reduceNeg, Int.reduceToNat, hll']
    refine loop_rule (fun m e s => ∃ i : Nat, m = l.length - i ∧ i ≤ l.length ∧ e.v 0 = .slice a l.length cap ∧ e.v 1 = .slice a' l'.length cap' ∧ e.v 5 = .int .i64 i ∧ e.d = [] ∧ s = σ ∧ ∀ j, j < i → l[j]? = l'[j]?) l.length ?_ ?_
    · refine ⟨0, by omega, by omega, ?_⟩
      simp -implicitDefEqProofs (disch := first | omega | (simp only [St.set_n, St.up_n, List.length_cons, List.length_nil]; omega)) only [go_sem, Nat.reduceAdd, Nat.reduceMul, Nat.reduceSub, Int.reduceAdd, Int.reduceMul, Int.reduceSub, Int.reduceNeg, Int.reduceToNat]
      simp
    · rintro m e s hws ⟨i, hm, hi, h0, h1, h5, hd, rfl, hall⟩
      simp -implicitDefEqProofs (disch := first | omega | (simp only [St.set_n, St.up_n, List.length_cons, List.length_nil]; omega)) only [go_sem, Nat.reduceAdd, Nat.reduceMul, Nat.reduceSub, Int.reduceAdd, Int.reduceMul, Int.reduceSub, Int.reduceNeg, Int.reduceToNat, h0, h1, h5]
      by_cases hlt : (i : Int) < l.length
      · obtain ⟨x, hx⟩ : ∃ x, l[i]? = some x := ⟨l[i]'(by omega), List.getElem?_eq_getElem (by omega)⟩
        obtain ⟨y, hy⟩ : ∃ x, l'[i]? = some x := ⟨l'[i]'(by omega), List.getElem?_eq_getElem (by omega)⟩
        obtain ⟨b, rfl, c, hm1, hm2⟩ := hat i x hx
        obtain ⟨b', rfl, c', hm1', hm2'⟩ := hat' i y hy
        have hlt' : (i : Int) < l'.length := by omega
        simp -implicitDefEqProofs (disch := first | omega | (simp only [St.set_n, St.up_n, List.length_cons, List.length_nil]; omega)) only [go_sem, Nat.reduceAdd, Nat.reduceMul, Nat.reduceSub, Int.reduceAdd, Int.reduceMul, Int.reduceSub, Int.reduceNeg, Int.reduceToNat, h0, h1, h5, hlt, hlt', hm1, hm2, hm1', hm2']
        by_cases hxy : x = y
        · simp -implicitDefEqProofs (disch := first | omega | (simp only [St.set_n, St.up_n, List.length_cons, List.length_nil]; omega)) only [go_sem, Nat.reduceAdd, Nat.reduceMul, Nat.reduceSub, Int.reduceAdd, Int.reduceMul, Int.reduceSub, Int.reduceNeg, Int.reduceToNat, hxy, h0, h1, h5]
          refine ⟨l.length - (i + 1), by omega, i + 1, rfl, by omega, ?_⟩
          simp -implicitDefEqProofs (disch := first | omega | (simp only [St.set_n, St.up_n, List.length_cons, List.length_nil]; omega)) only [go_sem, Nat.reduceAdd, Nat.reduceMul, Nat.reduceSub, Int.reduceAdd, Int.reduceMul, Int.reduceSub, Int.reduceNeg, Int.reduceToNat, h0, h1, h5, hd]
          simp only [Int.natCast_add, Int.cast_ofNat_Int, true_and]
          intro j hj
          by_cases hji : j = i
          · subst hji; rw [hx, hy, hxy]
          · exact hall j (by omega)
        · simp -implicitDefEqProofs (disch := first | omega | (simp only [St.set_n, St.up_n, List.length_cons, List.length_nil]; omega)) only [go_sem, Nat.reduceAdd, Nat.reduceMul, Nat.reduceSub, Int.reduceAdd, Int.reduceMul, Int.reduceSub, Int.reduceNeg, Int.reduceToNat, hxy, hd]
          have : ¬ l = l' := fun h => hxy (by rw [h, hy] at hx; exact (Option.some.inj hx).symm)
          simpa [this] using hK
      · simp -implicitDefEqProofs (disch := first | omega | (simp only [St.set_n, St.up_n, List.length_cons, List.length_nil]; omega)) only [go_sem, Nat.reduceAdd, Nat.reduceMul, Nat.reduceSub, Int.reduceAdd, Int.reduceMul, Int.reduceSub, Int.reduceNeg, Int.reduceToNat, h0, h1, h5, hlt, hd]
        have : l = l' := List.ext_getElem? fun j => by
          by_cases hj : j < i
          · exact hall j hj
          · rw [List.getElem?_eq_none (by omega), List.getElem?_eq_none (by omega)]
        simpa [this] using hK
  · have hll' : ¬ (l.length : Int) = l'.length := by omega
    simp -implicitDefEqProofs (disch := first | omega | (simp only [St.set_n, St.up_n, List.length_cons, List.length_nil]; omega)) only [go_sem, Nat.reduceAdd, Nat.reduceMul, Nat.reduceSub, Int.reduceAdd, Int.reduceMul, Int.reduceSub, Int.reduceNeg, Int.reduceToNat, hll']
    have : ¬ l = l' := fun h => hll (by rw [h])
    simpa [this] using hK

/-! ### The epochs -/
end
end Go.Proofs.Ytdbgeahmhfocaaa
