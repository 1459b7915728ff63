/- Histories: the log, by walks. -/
import Derived.Test.YtdbgeahmhfocaaaGreatFacts
namespace Go.Proofs.YtdbgeahmhfocaaaGreat
set_option linter.unusedSimpArgs false
set_option linter.unusedVariables false
set_option maxRecDepth 100000
open Go Go.RowKit

structure COp where
  kind : Int
  sub : Int
  text : ByteArray
  pay : ByteArray
  keep : Bool
structure CAn where
  err : Int
  a : Int
  b : Int
  topic : ByteArray
  pay : ByteArray
  kept : Bool
structure Cl where
  th : Int
  pl : Int
  op : COp
  an : CAn
  fr : Int
  to : Int
def fOp (o : COp) : List Value := [.int .i64 o.kind, .int .i64 o.sub, .string o.text, .string o.pay, .bool o.keep]
def fAn (a : CAn) : List Value := [.int .i64 a.err, .int .i64 a.a, .int .i64 a.b, .string a.topic, .string a.pay, .bool a.kept]
def fC (c : Cl) : List Value := [.int .i64 c.th, .int .i64 c.pl, .int .i64 c.op.kind, .int .i64 c.op.sub, .string c.op.text, .string c.op.pay, .bool c.op.keep,
  .int .i64 c.an.err, .int .i64 c.an.a, .int .i64 c.an.b, .string c.an.topic, .string c.an.pay, .bool c.an.kept, .int .i64 c.fr, .int .i64 c.to]
theorem fC_len (c : Cl) : (fC c).length = 15 := rfl
def an0 : CAn := ⟨0, 0, 0, ⟨#[]⟩, ⟨#[]⟩, false⟩
def op0 : COp := ⟨0, 0, ⟨#[]⟩, ⟨#[]⟩, false⟩
def cnt (l : List Cl) (t : Int) : Nat := (l.filter fun c => c.th == t).length
theorem cnt_append (l : List Cl) (c : Cl) (t : Int) : cnt (l ++ [c]) t = if c.th = t then cnt l t + 1 else cnt l t := by
  unfold cnt
  rw [List.filter_append]
  by_cases h : c.th = t <;> simp [h]
theorem cnt_le (l : List Cl) (t : Int) : cnt l t ≤ l.length := List.length_filter_le _ _

structure LS where
  l : List Cl
  now : Nat
def LS.begin (S : LS) (t : Int) (op : COp) : LS := { l := S.l ++ [⟨t, cnt S.l t, op, an0, S.now + 1, 0⟩], now := S.now + 1 }

def mblk : Value → Option Nat
  | .map (some b) => some b
  | _ => none
/-- The log's map: none yet, or a block of its own. -/
def MapOf (σ : St) (l : List Cl) (p : Nat) (sv mv : Value) : Prop :=
  (mv = .map none ∧ l = []) ∨ ∃ b mm, mv = .map (some b) ∧ σ.m b = some (.raw (mapO mm)) ∧ b ≠ p ∧ blk sv ≠ some b ∧ ∀ t, (mget mm t).getD (.int .i64 0) = .int .i64 (cnt l t)
def LogR (S : LS) (p : Nat) (h : Heaplet) : Prop :=
  ∃ sv mv, h p = some (.cells #[sv, .int .i64 S.now, mv] 106 (0, 0)) ∧ Own (hs h) 69 15 (flat fC S.l) S.l.length sv ∧ blk sv ≠ some p ∧ MapOf (hs h) S.l p sv mv

section
variable {B : World} {σ τ : St} {K : Value → St → Prop}

/-- The log at 'p' lies open. -/
structure LgO (B : World) (σ τ : St) (p : Nat) (S : LS) (sv mv : Value) : Prop where
  wf : τ.wf B
  n : σ.n ≤ τ.n
  root : τ.m p = some (.raw (.cells #[sv, .int .i64 S.now, mv] 106 (0, 0)))
  own : Own τ 69 15 (flat fC S.l) S.l.length sv
  offp : blk sv ≠ some p
  mp : MapOf τ S.l p sv mv
  fr : ∀ c x, c ≠ p → σ.m c = some x → τ.m c = some x ∧ blk sv ≠ some c ∧ mblk mv ≠ some c

theorem MapOf.at_ {l : List Cl} {p b : Nat} {sv mv : Value} (h : MapOf σ l p sv mv) (hb : mblk mv = some b) : ∃ o, σ.m b = some (.raw o) := by
  rcases h with ⟨rfl, _⟩ | ⟨b', mm, rfl, h1, _⟩
  · cases hb
  · cases hb; exact ⟨_, h1⟩
theorem MapOf.keepR {l : List Cl} {p : Nat} {sv mv : Value} (h : MapOf σ l p sv mv) (hk : ∀ b o, mblk mv = some b → σ.m b = some (.raw o) → τ.m b = some (.raw o)) : MapOf τ l p sv mv := by
  rcases h with h | ⟨b, mm, rfl, h1, h2⟩
  · exact .inl h
  · exact .inr ⟨b, mm, rfl, hk b _ rfl h1, h2⟩

theorem Fn.openL {f : FuncId} {args : Array Value} {p : Nat} {S : LS} (hm : σ.m p = some (.comp (LogR S p))) (he : ∃ fn, Tryz.prog.funcs[f]? = some fn ∧ (fn.name == "runtime.NumGoroutine") = false ∧ fn.body.isSome = true)
    (h : ∀ sv mv τ, τ.n = σ.n → LgO B σ τ p S sv mv → Fn Tryz.prog B f args τ K) : Fn Tryz.prog B f args σ K := by
  refine Fn.opens hm he fun g τ hR hwf hn hg hd hk => ?_
  obtain ⟨sv, mv, h1, h2, h3, h4⟩ := hR
  have hx : ∀ b o, (hs g).m b = some (.raw o) → τ.m b = some (.raw o) ∧ g b = some o := fun b o hb => by
    simp only [hs, Option.map_eq_some_iff] at hb
    obtain ⟨o', ho', e⟩ := hb
    cases e; exact ⟨hg b o ho', ho'⟩
  have hoff : ∀ c x, c ≠ p → σ.m c = some x → ∀ o, g c ≠ some o := fun c x hc hx o ho => by
    rcases hd c o ho with h5 | h5
    · exact hc h5
    · rw [hx] at h5; cases h5
  refine h sv mv τ hn ⟨hwf, by omega, hg p _ h1, h2.keepR fun b o _ hb => (hx b o hb).1, h3, h4.keepR fun b o _ hb => (hx b o hb).1, fun c x hc hcx => ⟨hk c x hc hcx, fun hb => ?_, fun hb => ?_⟩⟩
  · obtain ⟨o, ho⟩ := h2.at_ hb
    exact hoff c x hc hcx _ (hx _ _ ho).2
  · obtain ⟨o, ho⟩ := h4.at_ hb
    exact hoff c x hc hcx _ (hx _ _ ho).2
theorem LgO.close {p : Nat} {S : LS} {sv mv r : Value} (h : LgO B σ τ p S sv mv) (hK : ∀ k, σ.n ≤ k → K r ((σ.set p (.comp (LogR S p))).up k)) : ∃ σ'', To B τ σ'' ∧ K r σ'' := by
  have hin1 : ∀ b, blk sv = some b → b ∈ p :: ((blk sv).toList ++ (mblk mv).toList) := fun b hb => List.mem_cons_of_mem _ (List.mem_append.2 (.inl (by simp [hb])))
  have hin2 : ∀ b, mblk mv = some b → b ∈ p :: ((blk sv).toList ++ (mblk mv).toList) := fun b hb => List.mem_cons_of_mem _ (List.mem_append.2 (.inr (by simp [hb])))
  have hR : LogR S p (pick τ (p :: ((blk sv).toList ++ (mblk mv).toList))) := by
    refine ⟨sv, mv, pick_of List.mem_cons_self h.root, h.own.keepR fun b o hb hm => ?_, h.offp, h.mp.keepR fun b o hb hm => ?_⟩
    · simp only [hs, pick_of (hin1 b hb) hm, Option.map_some]
    · simp only [hs, pick_of (hin2 b hb) hm, Option.map_some]
  refine ⟨_, To.close (σ := σ) _ List.mem_cons_self h.root hR fun c x hc hx => ?_, hK _ h.n⟩
  obtain ⟨h1, h2, h3⟩ := h.fr c x hc hx
  refine ⟨fun hm => ?_, h1⟩
  rcases List.mem_cons.1 hm with h4 | h4
  · exact hc h4
  · rcases List.mem_append.1 h4 with h4 | h4 <;> simp only [Option.mem_toList] at h4
    · exact h2 h4
    · exact h3 h4
theorem Fn.opnL {f n : Nat} {c : Code} {rs : Array ResultVar} {args : Array Value} {p : Nat} {S : LS} (hm : σ.m p = some (.comp (LogR S p))) (hf : FnIs Tryz.prog f n c rs) (hsz : args.size ≤ n)
    (h : ∀ sv mv τ, τ.n = σ.n → LgO B σ τ p S sv mv → wpS Tryz.prog B none n c (retQ Tryz.prog B rs fun v σ' => ∃ σ'', To B σ' σ'' ∧ K v σ'') (fr0 args) τ) : Fn Tryz.prog B f args σ K :=
  Fn.openL hm hf.en fun sv mv τ hn O => Fn.of'' hf hsz O.wf (h sv mv τ hn O)
theorem Fn.opnLS {f n : Nat} {c : Code} {rs : Array ResultVar} {args : Array Value} {p : Nat} {S : LS} (hm : σ.m p = some (.comp (LogR S p))) (hf : FnIs Tryz.prog f n c rs) (hsz : args.size ≤ n)
    (h : ∀ sv mv τ, τ.n = σ.n → LgO B σ τ p S sv mv → SemS Tryz.prog B none n c (retQ Tryz.prog B rs fun v σ' => ∃ σ'', To B σ' σ'' ∧ K v σ'') (fr0 args) τ) : Fn Tryz.prog B f args σ K :=
  Fn.openL hm hf.en fun sv mv τ hn O => Fn.ofS hf hsz fun _ => h sv mv τ hn O
theorem LgO.more {τ' : St} {p : Nat} {S : LS} {sv mv : Value} (h : LgO B σ τ p S sv mv) (hwf : τ'.wf B) (hk : ∀ c x, τ.m c = some x → τ'.m c = some x) (hn : τ.n ≤ τ'.n) : LgO B σ τ' p S sv mv :=
  ⟨hwf, Nat.le_trans h.n hn, hk _ _ h.root, h.own.keepR fun b o _ ho => hk _ _ ho, h.offp, h.mp.keepR fun b o _ ho => hk _ _ ho, fun c x hc hx => ⟨hk _ _ (h.fr c x hc hx).1, (h.fr c x hc hx).2⟩⟩
/-- A block that is none of the log's. -/
theorem LgO.off {p c : Nat} {S : LS} {sv mv : Value} (h : LgO B σ τ p S sv mv) (hc : τ.n ≤ c) : c ≠ p ∧ blk sv ≠ some c ∧ mblk mv ≠ some c := by
  refine ⟨fun e => ?_, fun e => ?_, fun e => ?_⟩
  · have := (h.wf.2 _ _ h.root).2; omega
  · obtain ⟨o, ho⟩ := h.own.at_ e; have := (h.wf.2 _ _ ho).2; omega
  · obtain ⟨o, ho⟩ := h.mp.at_ e; have := (h.wf.2 _ _ ho).2; omega

theorem log_new (hK : ∀ k, σ.n < k → K (.pointer (some ⟨σ.n, 0, none⟩)) ((σ.set σ.n (.comp (LogR ⟨[], 0⟩ σ.n))).up k)) : Fn Tryz.prog B 11 #[] σ K := by
  refine Fn.of' is11 (by simp) fun hwf => ?_
  simp only [b11, Tryz.f11, Option.getD_some]
  simp -implicitDefEqProofs (disch := first | omega | (simp only [St.set_n, St.up_n, List.length_cons, List.length_nil]; omega)) only [go_sem, Nat.reduceAdd, Nat.reduceMul, Nat.reduceSub, Int.reduceAdd, Int.reduceMul, Int.reduceSub, Int.reduceNeg, Int.reduceToNat]
  have hm : ((σ.set σ.n (.raw (.cells #[.slice none 0 0, .int .i64 0, .map none] 106 (0, 0)))).up (σ.n + 1)).m σ.n = some (.raw (.cells #[.slice none 0 0, .int .i64 ((⟨[], 0⟩ : LS).now : Int), .map none] 106 (0, 0))) := by
    simp -implicitDefEqProofs (disch := first | omega | (simp only [St.set_n, St.up_n, List.length_cons, List.length_nil]; omega)) only [go_sem, Nat.reduceAdd, Nat.reduceMul, Nat.reduceSub, Int.reduceAdd, Int.reduceMul, Int.reduceSub, Int.reduceNeg, Int.reduceToNat]; rfl
  refine ⟨_, To.close (σ := σ) [σ.n] (List.mem_singleton.2 rfl) hm (R := LogR ⟨[], 0⟩ σ.n) ⟨.slice none 0 0, .map none, pick_of (List.mem_singleton.2 rfl) hm, Own.nil, by simp [blk], .inl ⟨rfl, rfl⟩⟩ fun c x hc hx => ⟨by simpa using hc, by simp -implicitDefEqProofs (disch := first | omega | (simp only [St.set_n, St.up_n, List.length_cons, List.length_nil]; omega)) only [go_sem, Nat.reduceAdd, Nat.reduceMul, Nat.reduceSub, Int.reduceAdd, Int.reduceMul, Int.reduceSub, Int.reduceNeg, Int.reduceToNat, hx]⟩, hK _ (by simp only [St.up_n]; omega)⟩

theorem log_defer {x3 x4 p b : Nat} {sv now : Value} {mm : Mp} {t : Int} {n : Nat} {K : St → Prop} (h3 : σ.m x3 = some (.raw (.cells #[.pointer (some ⟨p, 0, none⟩)] 43 (0, 0)))) (h4 : σ.m x4 = some (.raw (.cells #[.int .i64 t] 3 (0, 0))))
    (hr : σ.m p = some (.raw (.cells #[sv, now, .map (some b)] 106 (0, 0)))) (hb : σ.m b = some (.raw (mapO mm))) (hg : (mget mm t).getD (.int .i64 0) = .int .i64 n) (hn : n ≤ 1000000)
    (hK : K (σ.set b (.raw (mapO (mput mm t (.int .i64 (n + 1))))))) : DFn Tryz.prog B 65 #[.pointer (some ⟨x3, 0, none⟩), .pointer (some ⟨x4, 0, none⟩)] σ K := by
  refine DFn.of' is65 (by simp) fun hwf => ?_
  simp only [b65, Tryz.f65, Option.getD_some]
  simp -implicitDefEqProofs (disch := first | omega | (simp only [St.set_n, St.up_n, List.length_cons, List.length_nil]; omega)) only [go_sem, Nat.reduceAdd, Nat.reduceMul, Nat.reduceSub, Int.reduceAdd, Int.reduceMul, Int.reduceSub, Int.reduceNeg, Int.reduceToNat, h3, h4, hr, hb, hg]
  refine effD_tail (by kernel_rfl) ?_
  simp -implicitDefEqProofs (disch := first | omega | (simp only [St.set_n, St.up_n, List.length_cons, List.length_nil]; omega)) only [go_sem, Nat.reduceAdd, Nat.reduceMul, Nat.reduceSub, Int.reduceAdd, Int.reduceMul, Int.reduceSub, Int.reduceNeg, Int.reduceToNat, hb]
  exact ⟨⟨[], rfl⟩, hK⟩
end
end Go.Proofs.YtdbgeahmhfocaaaGreat
