/- Histories: the document's log, and whether two lists of calls are the same: walks. -/
import Derived.Test.YtgcojbgkenndhaaHistW
namespace Go.Proofs.Ytgcojbgkenndhaa
set_option pp.deepTerms false
set_option pp.deepTerms.threshold 8
set_option linter.unusedSimpArgs false
set_option linter.unusedVariables false
set_option maxRecDepth 100000
open Go Go.RowKit
section
variable {B : World} {σ τ : St} {K : Value → St → Prop}

theorem si65 : Try.prog.stoodInHeld 65 = false := by kernel_rfl
theorem si54 : Try.prog.stoodInHeld 54 = false := by kernel_rfl
theorem si59 : Try.prog.stoodInHeld 59 = false := by kernel_rfl
theorem si57 : Try.prog.stoodInHeld 57 = false := by kernel_rfl
theorem eg65 : Try.prog.eqGuardType Try.prog.depth 65 = false := by kernel_rfl
theorem eqD_struct {P : Program} {d : Nat} {t : TypeId} {fs : Array Field} {xs ys : Array Value} (hu : P.underlying t = some (.struct fs)) (hs : P.stoodInHeld t = false) :
    eqD P (d + 1) t (.agg xs) (.agg ys) = eqFs P (fun t a b => eqD P d t a b) xs ys fs.toList := by
  simp only [eqD, hu, hs, Bool.false_eq_true, if_false]
theorem eqD_int {P : Program} {d : Nat} {t : TypeId} {k : IntKind} {a : Int} (hu : P.underlying t = some (.int k)) : eqD P (d + 1) t (.int .i64 a) (.int .i64 a) = some true := by
  simp only [eqD, hu, if_true, beq_self_eq_true]
theorem eqD_bool {P : Program} {d : Nat} {t : TypeId} {a : Bool} (hu : P.underlying t = some .bool) : eqD P (d + 1) t (.bool a) (.bool a) = some true := by
  simp only [eqD, hu, beq_self_eq_true]
theorem eqD_string {P : Program} {d : Nat} {t : TypeId} {a : ByteArray} (hu : P.underlying t = some .string) : eqD P (d + 1) t (.string a) (.string a) = some true := by
  simp only [eqD, hu, beq_toListBytes, beq_self_eq_true]
theorem eqFs_one {P : Program} {g : TypeId → Value → Value → Option Bool} {xs ys : Array Value} {f : Field} {fs : List Field} {a b : Value} (hn : f.name ≠ "_") (ha : prt P f.type xs f.offset = some a) (hb : prt P f.type ys f.offset = some b) (hg : g f.type a b = some true) :
    eqFs P g xs ys (f :: fs) = eqFs P g xs ys fs := by
  rw [eqFs, if_pos hn, ha, hb]; simp only [hg]
theorem eqFs_nil {P : Program} {g : TypeId → Value → Value → Option Bool} {xs ys : Array Value} : eqFs P g xs ys [] = some true := rfl
theorem tk57' : tk Try.prog 57 = some (true, 3) := by kernel_rfl
theorem tk55' : tk Try.prog 55 = some (false, 1) := by kernel_rfl
theorem tk9' : tk Try.prog 9 = some (false, 1) := by kernel_rfl
theorem prt_one {P : Program} {t : TypeId} {n off : Nat} {xs : Array Value} (h : tk P t = some (false, n)) : prt P t xs off = xs[off]? := by simp only [prt, h]
theorem prt_agg {P : Program} {t : TypeId} {n off : Nat} {xs : Array Value} (h : tk P t = some (true, n)) : prt P t xs off = some (.agg (xs.extract off (off + n))) := by simp only [prt, h]
theorem neq_self (c : Cl) : bin Try.prog .neq 65 (.agg (fC c).toArray) (.agg (fC c).toArray) = some (.bool false) := by
  have hop : eqD Try.prog 3 54 (.agg (fOp c.op).toArray) (.agg (fOp c.op).toArray) = some true := by
    rw [eqD_struct Try.underlying54 si54]
    rw [eqFs_one (by decide) ((prt_one tk3).trans rfl) ((prt_one tk3).trans rfl) (eqD_int Try.underlying3),
      eqFs_one (by decide) ((prt_one tk3).trans rfl) ((prt_one tk3).trans rfl) (eqD_int Try.underlying3),
      eqFs_one (by decide) ((prt_one tk9').trans rfl) ((prt_one tk9').trans rfl) (eqD_string Try.underlying9),
      eqFs_one (by decide) ((prt_one tk9').trans rfl) ((prt_one tk9').trans rfl) (eqD_string Try.underlying9),
      eqFs_one (by decide) ((prt_one tk4).trans rfl) ((prt_one tk4).trans rfl) (eqD_bool Try.underlying4), eqFs_nil]
  have hms : eqD Try.prog 2 57 (.agg #[.string c.an.topic, .string c.an.pay, .bool c.an.kept]) (.agg #[.string c.an.topic, .string c.an.pay, .bool c.an.kept]) = some true := by
    rw [eqD_struct Try.underlying57 si57]
    rw [eqFs_one (by decide) ((prt_one tk9').trans rfl) ((prt_one tk9').trans rfl) (eqD_string Try.underlying9),
      eqFs_one (by decide) ((prt_one tk9').trans rfl) ((prt_one tk9').trans rfl) (eqD_string Try.underlying9),
      eqFs_one (by decide) ((prt_one tk4).trans rfl) ((prt_one tk4).trans rfl) (eqD_bool Try.underlying4), eqFs_nil]
  have han : eqD Try.prog 3 59 (.agg (fAn c.an).toArray) (.agg (fAn c.an).toArray) = some true := by
    rw [eqD_struct Try.underlying59 si59]
    rw [eqFs_one (by decide) ((prt_one tk55').trans rfl) ((prt_one tk55').trans rfl) (eqD_int Try.underlying55),
      eqFs_one (by decide) ((prt_one tk3).trans rfl) ((prt_one tk3).trans rfl) (eqD_int Try.underlying3),
      eqFs_one (by decide) ((prt_one tk3).trans rfl) ((prt_one tk3).trans rfl) (eqD_int Try.underlying3),
      eqFs_one (by decide) ((prt_agg tk57').trans (congrArg some (congrArg Value.agg (by simp [fAn])))) ((prt_agg tk57').trans (congrArg some (congrArg Value.agg (by simp [fAn])))) hms, eqFs_nil]
  have h : eqA Try.prog 65 (fC c).toArray (fC c).toArray = some true := by
    unfold eqA
    rw [eg65]
    simp only [Bool.false_eq_true, if_false]
    rw [eqD_struct Try.underlying65 si65]
    rw [eqFs_one (by decide) ((prt_one tk3).trans rfl) ((prt_one tk3).trans rfl) (eqD_int Try.underlying3),
      eqFs_one (by decide) ((prt_one tk3).trans rfl) ((prt_one tk3).trans rfl) (eqD_int Try.underlying3),
      eqFs_one (by decide) ((prt_agg tk54).trans (congrArg some (congrArg Value.agg (by simp [fC, fOp])))) ((prt_agg tk54).trans (congrArg some (congrArg Value.agg (by simp [fC, fOp])))) hop,
      eqFs_one (by decide) ((prt_agg tk59).trans (congrArg some (congrArg Value.agg (by simp [fC, fAn])))) ((prt_agg tk59).trans (congrArg some (congrArg Value.agg (by simp [fC, fAn])))) han,
      eqFs_one (by decide) ((prt_one tk3).trans rfl) ((prt_one tk3).trans rfl) (eqD_int Try.underlying3),
      eqFs_one (by decide) ((prt_one tk3).trans rfl) ((prt_one tk3).trans rfl) (eqD_int Try.underlying3), eqFs_nil]
  simp only [bin, h, Option.map_some, Bool.not_true]

/-- The document's log at 'p' lies open. -/
structure RlO (s : St) (p : Nat) (S : LS) (sv : Value) : Prop where
  root : s.m p = some (.raw (.cells #[sv, .int .i64 S.now] 52 (0, 0)))
  own : Own s 65 15 (flat fC S.l) S.l.length sv
  off : blk sv ≠ some p
structure CtI (A : Option Addr) (n c p x5 i pl : Nat) (t : Int) (e : Fr) : Prop where
  v0 : e.v 0 = .pointer (some ⟨p, 0, none⟩)
  v1 : e.v 1 = .int .i64 t
  v5 : e.v 5 = .pointer (some ⟨x5, 0, none⟩)
  v7 : e.v 7 = .int .i64 pl
  v8 : e.v 8 = .int .i64 i
  d : e.d = []
structure Eqs (s s' : St) : Prop where
  eq : s' = s
set_option maxHeartbeats 4000000 in
theorem rl_begin {S : LS} {p : Nat} {sv : Value} {t : Int} {op : COp} (hR : RlO σ p S sv) (hn1 : S.now ≤ 1000000) (hl : S.l.length ≤ 100000)
    (hK : ∀ sv' s, RlO s p (S.begin t op) sv' → (∀ c x, c ≠ p → blk sv ≠ some c → σ.m c = some x → s.m c = some x) → (∀ b, blk sv' = some b → σ.n ≤ b ∨ blk sv = some b) → σ.n ≤ s.n → K (.int .i64 (S.l.length + 1)) s) :
    Fn Try.prog B 32 #[.pointer (some ⟨p, 0, none⟩), .int .i64 t, .agg (fOp op).toArray] σ K := by
  obtain ⟨hr, ho, hoff⟩ := hR
  obtain ⟨A, cap, rfl, hcap⟩ := ho.is
  refine Fn.of is32 (by simp) fun hwf => ?_
  have hpn := hwf.2 _ _ hr
  have hB := hwf.1
  simp only [b32, Try.f32, Option.getD_some]
  simp -implicitDefEqProofs (disch := first | omega | (simp only [St.set_n, St.up_n, List.length_cons, List.length_nil]; omega)) only [go_sem, Nat.reduceAdd, Nat.reduceMul, Nat.reduceSub, Int.reduceAdd, Int.reduceMul, Int.reduceSub, Int.reduceNeg, Int.reduceToNat, fOp, hr]
  have hw1 : ((σ.set σ.n (.raw (.cells #[.int .i64 op.kind, .int .i64 op.sub, .string op.text, .string op.pay, .bool op.keep] 54 (0, 0)))).set p (.raw (.cells #[.slice A S.l.length cap, .int .i64 (S.now + 1)] 52 (0, 0)))).up (σ.n + 1) |>.wf B := by
    refine ⟨by simp only [St.up_n, St.set_n]; omega, fun c x hc => ?_⟩
    simp only [St.up_m, St.set, St.up_n] at hc ⊢
    split at hc
    · omega
    · split at hc
      · omega
      · have := hwf.2 _ _ hc; omega
  have hk1 : ∀ c x, c ≠ p → σ.m c = some x → (((σ.set σ.n (.raw (.cells #[.int .i64 op.kind, .int .i64 op.sub, .string op.text, .string op.pay, .bool op.keep] 54 (0, 0)))).set p (.raw (.cells #[.slice A S.l.length cap, .int .i64 (S.now + 1)] 52 (0, 0)))).up (σ.n + 1)).m c = some x := fun c x h1 hx => by
    have := (hwf.2 _ _ hx).2
    simp -implicitDefEqProofs (disch := first | omega | (simp only [St.set_n, St.up_n, List.length_cons, List.length_nil]; omega)) only [go_sem, Nat.reduceAdd, Nat.reduceMul, Nat.reduceSub, Int.reduceAdd, Int.reduceMul, Int.reduceSub, Int.reduceNeg, Int.reduceToNat, hx]
  have hx5 : (((σ.set σ.n (.raw (.cells #[.int .i64 op.kind, .int .i64 op.sub, .string op.text, .string op.pay, .bool op.keep] 54 (0, 0)))).set p (.raw (.cells #[.slice A S.l.length cap, .int .i64 (S.now + 1)] 52 (0, 0)))).up (σ.n + 1)).m σ.n = some (.raw (.cells #[.int .i64 op.kind, .int .i64 op.sub, .string op.text, .string op.pay, .bool op.keep] 54 (0, 0))) := by simp -implicitDefEqProofs (disch := first | omega | (simp only [St.set_n, St.up_n, List.length_cons, List.length_nil]; omega)) only [go_sem, Nat.reduceAdd, Nat.reduceMul, Nat.reduceSub, Int.reduceAdd, Int.reduceMul, Int.reduceSub, Int.reduceNeg, Int.reduceToNat]
  have hr1 : (((σ.set σ.n (.raw (.cells #[.int .i64 op.kind, .int .i64 op.sub, .string op.text, .string op.pay, .bool op.keep] 54 (0, 0)))).set p (.raw (.cells #[.slice A S.l.length cap, .int .i64 (S.now + 1)] 52 (0, 0)))).up (σ.n + 1)).m p = some (.raw (.cells #[.slice A S.l.length cap, .int .i64 (S.now + 1)] 52 (0, 0))) := by simp -implicitDefEqProofs (disch := first | omega | (simp only [St.set_n, St.up_n, List.length_cons, List.length_nil]; omega)) only [go_sem, Nat.reduceAdd, Nat.reduceMul, Nat.reduceSub, Int.reduceAdd, Int.reduceMul, Int.reduceSub, Int.reduceNeg, Int.reduceToNat]
  have hns : (((σ.set σ.n (.raw (.cells #[.int .i64 op.kind, .int .i64 op.sub, .string op.text, .string op.pay, .bool op.keep] 54 (0, 0)))).set p (.raw (.cells #[.slice A S.l.length cap, .int .i64 (S.now + 1)] 52 (0, 0)))).up (σ.n + 1)).n = σ.n + 1 := rfl
  generalize ((σ.set σ.n (.raw (.cells #[.int .i64 op.kind, .int .i64 op.sub, .string op.text, .string op.pay, .bool op.keep] 54 (0, 0)))).set p (.raw (.cells #[.slice A S.l.length cap, .int .i64 (S.now + 1)] 52 (0, 0)))).up (σ.n + 1) = s0 at hw1 hk1 hx5 hr1 hns ⊢
  have ho1 : Own s0 65 15 (flat fC S.l) S.l.length (.slice A S.l.length cap) := ho.keepR fun b o hb hbo => hk1 b _ (fun e => hoff (e ▸ hb)) hbo
  refine loop_rule (fun m e s => ∃ i : Nat, m = S.l.length - i ∧ i ≤ S.l.length ∧ CtI A S.l.length cap p σ.n i (cnt (S.l.take i) t) t e ∧ Eqs s0 s) S.l.length ?_ ?_
  · exact ⟨0, by omega, by omega, ⟨by simp -implicitDefEqProofs (disch := first | omega | (simp only [St.set_n, St.up_n, List.length_cons, List.length_nil]; omega)) only [go_sem, Nat.reduceAdd, Nat.reduceMul, Nat.reduceSub, Int.reduceAdd, Int.reduceMul, Int.reduceSub, Int.reduceNeg, Int.reduceToNat], by simp -implicitDefEqProofs (disch := first | omega | (simp only [St.set_n, St.up_n, List.length_cons, List.length_nil]; omega)) only [go_sem, Nat.reduceAdd, Nat.reduceMul, Nat.reduceSub, Int.reduceAdd, Int.reduceMul, Int.reduceSub, Int.reduceNeg, Int.reduceToNat], by simp -implicitDefEqProofs (disch := first | omega | (simp only [St.set_n, St.up_n, List.length_cons, List.length_nil]; omega)) only [go_sem, Nat.reduceAdd, Nat.reduceMul, Nat.reduceSub, Int.reduceAdd, Int.reduceMul, Int.reduceSub, Int.reduceNeg, Int.reduceToNat], by simp -implicitDefEqProofs (disch := first | omega | (simp only [St.set_n, St.up_n, List.length_cons, List.length_nil]; omega)) only [go_sem, Nat.reduceAdd, Nat.reduceMul, Nat.reduceSub, Int.reduceAdd, Int.reduceMul, Int.reduceSub, Int.reduceNeg, Int.reduceToNat]; rfl, by simp -implicitDefEqProofs (disch := first | omega | (simp only [St.set_n, St.up_n, List.length_cons, List.length_nil]; omega)) only [go_sem, Nat.reduceAdd, Nat.reduceMul, Nat.reduceSub, Int.reduceAdd, Int.reduceMul, Int.reduceSub, Int.reduceNeg, Int.reduceToNat]; rfl, by simp -implicitDefEqProofs (disch := first | omega | (simp only [St.set_n, St.up_n, List.length_cons, List.length_nil]; omega)) only [go_sem, Nat.reduceAdd, Nat.reduceMul, Nat.reduceSub, Int.reduceAdd, Int.reduceMul, Int.reduceSub, Int.reduceNeg, Int.reduceToNat]⟩, ⟨rfl⟩⟩
  rintro m e s hws ⟨i, hm, hi, ⟨q0, q1, q5, q7, q8, hd⟩, ⟨rfl⟩⟩
  by_cases hlt : (i : Int) < S.l.length
  · obtain ⟨c, hc⟩ : ∃ x, S.l[i]? = some x := ⟨S.l[i]'(by omega), List.getElem?_eq_getElem (by omega)⟩
    obtain ⟨b1, c1, sp1, e1, _, m1, _, _⟩ := ho1.has (by omega)
    cases e1
    have hcc := cl_cells hc sp1
    have hcl := cnt_le (S.l.take i) t
    rw [List.length_take] at hcl
    by_cases ht : c.th = t
    · simp -implicitDefEqProofs (disch := first | omega | (simp only [St.set_n, St.up_n, List.length_cons, List.length_nil]; omega)) only [go_sem, Nat.reduceAdd, Nat.reduceMul, Nat.reduceSub, Int.reduceAdd, Int.reduceMul, Int.reduceSub, Int.reduceNeg, Int.reduceToNat, q0, q1, q7, q8, hlt, hr1, m1, hcc, ht]
      refine ⟨S.l.length - (i + 1), by omega, i + 1, rfl, by omega, ⟨by simp -implicitDefEqProofs (disch := first | omega | (simp only [St.set_n, St.up_n, List.length_cons, List.length_nil]; omega)) only [go_sem, Nat.reduceAdd, Nat.reduceMul, Nat.reduceSub, Int.reduceAdd, Int.reduceMul, Int.reduceSub, Int.reduceNeg, Int.reduceToNat, q0], by simp -implicitDefEqProofs (disch := first | omega | (simp only [St.set_n, St.up_n, List.length_cons, List.length_nil]; omega)) only [go_sem, Nat.reduceAdd, Nat.reduceMul, Nat.reduceSub, Int.reduceAdd, Int.reduceMul, Int.reduceSub, Int.reduceNeg, Int.reduceToNat, q1], by simp -implicitDefEqProofs (disch := first | omega | (simp only [St.set_n, St.up_n, List.length_cons, List.length_nil]; omega)) only [go_sem, Nat.reduceAdd, Nat.reduceMul, Nat.reduceSub, Int.reduceAdd, Int.reduceMul, Int.reduceSub, Int.reduceNeg, Int.reduceToNat, q5], ?_, by simp -implicitDefEqProofs (disch := first | omega | (simp only [St.set_n, St.up_n, List.length_cons, List.length_nil]; omega)) only [go_sem, Nat.reduceAdd, Nat.reduceMul, Nat.reduceSub, Int.reduceAdd, Int.reduceMul, Int.reduceSub, Int.reduceNeg, Int.reduceToNat]; rfl, by simp -implicitDefEqProofs (disch := first | omega | (simp only [St.set_n, St.up_n, List.length_cons, List.length_nil]; omega)) only [go_sem, Nat.reduceAdd, Nat.reduceMul, Nat.reduceSub, Int.reduceAdd, Int.reduceMul, Int.reduceSub, Int.reduceNeg, Int.reduceToNat, hd]⟩, ⟨rfl⟩⟩
      rw [cnt_take_succ hc, if_pos ht]; simp -implicitDefEqProofs (disch := first | omega | (simp only [St.set_n, St.up_n, List.length_cons, List.length_nil]; omega)) only [go_sem, Nat.reduceAdd, Nat.reduceMul, Nat.reduceSub, Int.reduceAdd, Int.reduceMul, Int.reduceSub, Int.reduceNeg, Int.reduceToNat]; rfl
    · simp -implicitDefEqProofs (disch := first | omega | (simp only [St.set_n, St.up_n, List.length_cons, List.length_nil]; omega)) only [go_sem, Nat.reduceAdd, Nat.reduceMul, Nat.reduceSub, Int.reduceAdd, Int.reduceMul, Int.reduceSub, Int.reduceNeg, Int.reduceToNat, q0, q1, q7, q8, hlt, hr1, m1, hcc, ht]
      refine ⟨S.l.length - (i + 1), by omega, i + 1, rfl, by omega, ⟨by simp -implicitDefEqProofs (disch := first | omega | (simp only [St.set_n, St.up_n, List.length_cons, List.length_nil]; omega)) only [go_sem, Nat.reduceAdd, Nat.reduceMul, Nat.reduceSub, Int.reduceAdd, Int.reduceMul, Int.reduceSub, Int.reduceNeg, Int.reduceToNat, q0], by simp -implicitDefEqProofs (disch := first | omega | (simp only [St.set_n, St.up_n, List.length_cons, List.length_nil]; omega)) only [go_sem, Nat.reduceAdd, Nat.reduceMul, Nat.reduceSub, Int.reduceAdd, Int.reduceMul, Int.reduceSub, Int.reduceNeg, Int.reduceToNat, q1], by simp -implicitDefEqProofs (disch := first | omega | (simp only [St.set_n, St.up_n, List.length_cons, List.length_nil]; omega)) only [go_sem, Nat.reduceAdd, Nat.reduceMul, Nat.reduceSub, Int.reduceAdd, Int.reduceMul, Int.reduceSub, Int.reduceNeg, Int.reduceToNat, q5], ?_, by simp -implicitDefEqProofs (disch := first | omega | (simp only [St.set_n, St.up_n, List.length_cons, List.length_nil]; omega)) only [go_sem, Nat.reduceAdd, Nat.reduceMul, Nat.reduceSub, Int.reduceAdd, Int.reduceMul, Int.reduceSub, Int.reduceNeg, Int.reduceToNat]; rfl, by simp -implicitDefEqProofs (disch := first | omega | (simp only [St.set_n, St.up_n, List.length_cons, List.length_nil]; omega)) only [go_sem, Nat.reduceAdd, Nat.reduceMul, Nat.reduceSub, Int.reduceAdd, Int.reduceMul, Int.reduceSub, Int.reduceNeg, Int.reduceToNat, hd]⟩, ⟨rfl⟩⟩
      rw [cnt_take_succ hc, if_neg ht]; simp -implicitDefEqProofs (disch := first | omega | (simp only [St.set_n, St.up_n, List.length_cons, List.length_nil]; omega)) only [go_sem, Nat.reduceAdd, Nat.reduceMul, Nat.reduceSub, Int.reduceAdd, Int.reduceMul, Int.reduceSub, Int.reduceNeg, Int.reduceToNat, q7]
  · have hil : i = S.l.length := by omega
    subst hil
    rw [List.take_length] at q7
    simp -implicitDefEqProofs (disch := first | omega | (simp only [St.set_n, St.up_n, List.length_cons, List.length_nil]; omega)) only [go_sem, Nat.reduceAdd, Nat.reduceMul, Nat.reduceSub, Int.reduceAdd, Int.reduceMul, Int.reduceSub, Int.reduceNeg, Int.reduceToNat, q0, q1, q5, q7, q8, hlt, hr1, hx5, hd]
    refine effD_plan [0, 0, 2, 6, 14, 0, 0, 0, 0, 256, 768, 1792, 4064, 8160, 16382, 32767, 65535, 131071] [0, 1, 2, 3, 4, 5, 6, 7, 8, 9, 10, 11, 12, 15, 16] (.eag 0 (.eag 1 (.eag 2 (.eag 3 (.eagq 4 (.eag 5 (.eag 6 (.eagq 7 (.eag 8 (.eag 9 (.eag 10 (.eagq 11 (.eag 12 (.alt 13 [4] (.alt 14 [] (.eag 15 (.eag 16 (.alt 17 [] .fin .stop))) .stop) .stop)))))))))))))) (by kernel_rfl) ?_
    simp -implicitDefEqProofs (disch := first | omega | (simp only [St.set_n, St.up_n, List.length_cons, List.length_nil]; omega)) only [go_sem, Nat.reduceAdd, Nat.reduceMul, Nat.reduceSub, Int.reduceAdd, Int.reduceMul, Int.reduceSub, Int.reduceNeg, Int.reduceToNat, q0, q1, q5, q7, q8, hlt, hr1, hx5, hd]
    refine appF_one (s := s) (sz := 15) (bts := 152) (ys := fC ⟨t, cnt S.l t, op, an0, S.now + 1, 0⟩) hw1 ho1 se50 kd50 zr65 rfl (by omega) rfl rfl (by omega) fun A' C' s1 hC' o1 hw2 hk2 hm1 hb1 hn1 => ?_
    have r1 := hm1 p _ hr1 hoff
    simp -implicitDefEqProofs (disch := first | omega | (simp only [St.set_n, St.up_n, List.length_cons, List.length_nil]; omega)) only [go_sem, Nat.reduceAdd, Nat.reduceMul, Nat.reduceSub, Int.reduceAdd, Int.reduceMul, Int.reduceSub, Int.reduceNeg, Int.reduceToNat, q0, r1, hd]
    have hp1 : blk (.slice A' (S.l.length + 1) C') ≠ some p := fun e => by
      rcases hb1 p e with h | h
      · omega
      · exact hoff h
    have hS : (S.l ++ [(⟨t, cnt S.l t, op, an0, S.now + 1, 0⟩ : Cl)]).length = S.l.length + 1 := by simp
    refine hK (.slice A' (S.l.length + 1) C') _ ⟨by simp -implicitDefEqProofs (disch := first | omega | (simp only [St.set_n, St.up_n, List.length_cons, List.length_nil]; omega)) only [go_sem, Nat.reduceAdd, Nat.reduceMul, Nat.reduceSub, Int.reduceAdd, Int.reduceMul, Int.reduceSub, Int.reduceNeg, Int.reduceToNat]; rfl, ?_, hp1⟩ (fun c x h1 h2 hx => ?_) (fun b hb => ?_) (by simp only [St.set_n]; omega)
    · show Own _ 65 15 (flat fC (S.l ++ [(⟨t, cnt S.l t, op, an0, S.now + 1, 0⟩ : Cl)])) (S.l ++ [(⟨t, cnt S.l t, op, an0, S.now + 1, 0⟩ : Cl)]).length _
      rw [hS, flat_append]
      have hf1 : flat fC [(⟨t, cnt S.l t, op, an0, S.now + 1, 0⟩ : Cl)] = fC ⟨t, cnt S.l t, op, an0, S.now + 1, 0⟩ := by simp [flat]
      rw [hf1]
      refine o1.keepR fun c o hc ho => ?_
      have h1 : c ≠ p := fun e => hp1 (e ▸ hc)
      simp -implicitDefEqProofs (disch := first | omega | (simp only [St.set_n, St.up_n, List.length_cons, List.length_nil]; omega)) only [go_sem, Nat.reduceAdd, Nat.reduceMul, Nat.reduceSub, Int.reduceAdd, Int.reduceMul, Int.reduceSub, Int.reduceNeg, Int.reduceToNat, ho]
    · have := hm1 c x (hk1 c x h1 hx) h2
      simp -implicitDefEqProofs (disch := first | omega | (simp only [St.set_n, St.up_n, List.length_cons, List.length_nil]; omega)) only [go_sem, Nat.reduceAdd, Nat.reduceMul, Nat.reduceSub, Int.reduceAdd, Int.reduceMul, Int.reduceSub, Int.reduceNeg, Int.reduceToNat, this]
    · rcases hb1 b hb with h | h
      · left; omega
      · exact .inr h
end
end Go.Proofs.Ytgcojbgkenndhaa
