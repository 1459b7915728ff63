/- The core's world: locks, queues, and what is logged. -/
import Derived.Test.YtdbgeahmhfocaaaGreatRng
import Derived.Test.YtdbgeahmhfocaaaGreatHistC
namespace Go.Proofs.YtdbgeahmhfocaaaGreat
set_option linter.unusedSimpArgs false
set_option linter.unusedVariables false
set_option maxRecDepth 100000
open Go Go.RowKit
structure RgS where
  L : List Mg
  G : Nat
  D : Int
structure CU where
  l : Nat → Lk
  log : LS
  rg : Nat → RgS
inductive CA where
  | bg (op : COp)
  | lk (i : Int)
  | fr (i : Int)
  | po (i j : Nat) (d : Bool)
  | fe (i : Int) (j : Nat) (a : CAn)
  | an (j : Nat)
def anE (e : Int) : CAn := ⟨e, 0, 0, ⟨#[]⟩, ⟨#[]⟩, false⟩
def pollA (R : RgS) : CAn := if R.L.length = 0 then anE 7 else ⟨0, 0, 0, (R.L.getD 0 m0).topic, (R.L.getD 0 m0).pay, (R.L.getD 0 m0).kept⟩
def pollR (R : RgS) : RgS := ⟨R.L.tail, if R.L.length = 0 then R.G else R.G + 1, R.D⟩
def dropA (R : RgS) : CAn := ⟨0, R.D, 0, ⟨#[]⟩, ⟨#[]⟩, false⟩
def ansC (R : RgS) (d : Bool) : CAn := if d then dropA R else pollA R
def rgC (R : RgS) (d : Bool) : RgS := if d then R else pollR R
def LS.fin (S : LS) (j : Nat) (a : CAn) : LS := match S.l[j]? with
  | some c => ⟨S.l.set j { c with an := a, to := S.now + 1 }, S.now + 1⟩
  | none => S
def CU.try (u : CU) (uo i : Int) : CU := if 0 ≤ i ∧ i < (12 : Nat) then { u with l := updL u.l i.toNat (tryT (u.l i.toNat) uo) } else u
def CU.free (u : CU) (uo i : Int) : CU := if 0 ≤ i ∧ i < (12 : Nat) then { u with l := updL u.l i.toNat (freeT (u.l i.toNat) uo) } else u
def CU.fin (u : CU) (j : Nat) (a : CAn) : CU := { u with log := u.log.fin j a }
def CU.po (u : CU) (i : Nat) (d : Bool) : CU := { u with rg := updL u.rg i (rgC (u.rg i) d) }
/-- What an operation does. -/
def aft (nr : Nat) (op : COp) (j : Nat) : List CA := if 1 ≤ op.sub ∧ op.sub ≤ nr then [.lk (3 + op.sub), .po (op.sub - 1).toNat j (op.kind == 5)] else [.an j]
def exC (nr : Nat) (t : Nat) (u : CU) : CA → CU × List CA × Bool
  | .bg op => ({ u with log := u.log.begin t op }, aft nr op u.log.l.length, true)
  | .lk i => (u.try ((t : Int) + 1) i, [], decide (0 ≤ i ∧ i < (12 : Nat)) && tryB (u.l i.toNat).1 ((t : Int) + 1))
  | .fr i => (u.free ((t : Int) + 1) i, [], true)
  | .po i j d => (u.po i d, [.fe (4 + (i : Int)) j (ansC (u.rg i) d)], true)
  | .fe i j a => ((u.free ((t : Int) + 1) i).fin j a, [], true)
  | .an j => (u.fin j (anE 4), [], true)
structure LogOk (S : LS) : Prop where
  now : S.now ≤ 1000000
  len : S.l.length ≤ 100000
structure EndOk (S : LS) (j : Nat) : Prop where
  ok : LogOk S
  c : ∃ c, S.l[j]? = some c ∧ c.to = 0
structure RgOk (rn : Nat) (R : RgS) : Prop where
  len : R.L.length ≤ rn
  g : R.G ≤ 1000000
def preC (rn : Nat) (_ : Nat) (u : CU) : CA → Prop
  | .bg _ => LogOk u.log
  | .lk _ => True
  | .fr _ => True
  | .po i j _ => RgOk rn (u.rg i) ∧ EndOk u.log j
  | .fe _ j _ => EndOk u.log j
  | .an j => EndOk u.log j
structure YB where
  c : Nat
  g : Nat
  b : Nat
  lp : Nat
structure YW (q : YB) (nr rn : Nat) (rr rb : Nat → Nat) (H : CU → HF) : Prop where
  n8 : nr ≤ 8
  rn1 : 1 ≤ rn
  rn2 : rn ≤ 1024
  core : ∃ v0 v1 v3 v4 v5 v6 v7 v9 A cap, (∀ u, H u q.c = some (.raw (.cells #[v0, v1, .pointer (some ⟨q.g, 0, none⟩), v3, v4, v5, v6, v7, .slice A nr cap, v9] 87 (0, 0)))) ∧
    (nr ≠ 0 → ∃ rk cs ty, A = some ⟨rk, 0, none⟩ ∧ (∀ u, H u rk = some (.raw (.cells cs ty (0, 0)))) ∧ ∀ i, i < nr → cs[i]? = some (.pointer (some ⟨rr i, 0, none⟩)))
  gr : ∀ u, H u q.g = some (.raw (.cells #[.slice (some ⟨q.b, 0, none⟩) (12 : Nat) (12 : Nat)] 138 (0, 0)))
  lk : ∀ u, H u q.b = some (.raw (.cells (flat fLk (lksA 12 u.l)).toArray 168 (0, 0)))
  lf : ∀ (u : CU) l c, c ≠ q.b → H { u with l := l } c = H u c
  log : ∀ u, H u q.lp = some (.comp (LogR u.log q.lp))
  logf : ∀ (u : CU) x c, c ≠ q.lp → H { u with log := x } c = H u c
  rs : ∀ u i, i < nr → H u (rr i) = some (.raw (.cells #[.slice (some ⟨rb i, 0, none⟩) rn rn, .int .i64 ((u.rg i).G + (u.rg i).L.length : Nat), .int .i64 (u.rg i).G, .int .i64 (u.rg i).D] 149 (0, 0)))
  rw : ∀ u i, i < nr → H u (rb i) = some (.raw (.cells (flat fSl (slots (u.rg i).L (u.rg i).G rn)).toArray 151 (0, 0)))
  rf : ∀ (u : CU) i x c, i < nr → c ≠ rr i → c ≠ rb i → H { u with rg := updL u.rg i x } c = H u c
  rne : ∀ i, i < nr → rr i ≠ rb i
section
variable {B : World} {q : YB} {nr rn : Nat} {rr rb : Nat → Nat} {H : CU → HF} {K : Value → St → Prop} {G : Nat → Prop} {h : HF} {s : St}
abbrev cL (nr rn : Nat) (H : CU → HF) : Lg B := hLg CU CA (exC nr) (preC rn) H
def yLk (hw : YW q nr rn rr rb H) : LkW CU H q.b 12 where
  get := fun u => u.l
  set := fun u l => { u with l := l }
  hb := hw.lk
  hs := hw.lf
  gs := fun u l => rfl
theorem updL_eq {α : Type} {f : Nat → α} {t : Nat} {v : α} : updL f t v t = v := by unfold updL; rw [if_pos rfl]
theorem updL_ne {α : Type} {f : Nat → α} {t j : Nat} {v : α} (h : j ≠ t) : updL f t v j = f j := by unfold updL; rw [if_neg h]
/-- A change of the log alone. -/
theorem log_aft (hw : YW q nr rn rr rb H) {u : CU} {S' : LS} {v : Value} {k : Nat} (he : Env (cL (B := B) nr rn H) h G u s) (hk : s.n ≤ k) :
    Aft (cL (B := B) nr rn H) (fun _ h' => h' = h) G { u with log := S' } s v ((s.set q.lp (.comp (LogR S' q.lp))).up k) :=
  Aft.one he (by rw [hw.log]; simp) hk (hw.log { u with log := S' }) fun c hc => hw.logf u S' c hc
theorem begin_ok (hw : YW q nr rn rr rb H) (t : Nat) (op : COp) : OpOk (cL (B := B) nr rn H) (fun u => LogOk u.log) 37 #[.pointer (some ⟨q.lp, 0, none⟩), .int .i64 t, .agg (fOp op).toArray] (fun u r => r = .int .i64 ((u.log.l.length : Int) + 1)) (fun u => { u with log := u.log.begin t op }) h := by
  intro G (u : CU) s he hp
  exact log_begin (he.at (hw.log u)).1 hp.now hp.len fun k hk => ⟨rfl, log_aft hw he hk⟩
theorem end_ok (hw : YW q nr rn rr rb H) (j : Nat) (a : CAn) : OpOk (cL (B := B) nr rn H) (fun u => EndOk u.log j) 34 #[.pointer (some ⟨q.lp, 0, none⟩), .int .i64 ((j : Int) + 1), .agg (fAn a).toArray] (fun _ r => r = .bool true) (fun u => u.fin j a) h := by
  intro G (u : CU) s he hp
  obtain ⟨⟨h1, h2⟩, c, hc, hto⟩ := hp
  refine log_end (he.at (hw.log u)).1 h1 h2 rfl hc hto fun k hk => ⟨rfl, ?_⟩
  have e : u.fin j a = { u with log := ⟨u.log.l.set j { c with an := a, to := u.log.now + 1 }, u.log.now + 1⟩ } := by
    unfold CU.fin LS.fin; rw [hc]
  show Aft (cL (B := B) nr rn H) _ _ (u.fin j a) _ _ _
  rw [e]
  exact log_aft hw he hk
theorem ring_is (hw : YW q nr rn rr rb H) {u : CU} (he : Env (cL (B := B) nr rn H) h G u s) {i : Nat} (hi : i < nr) (ho : RgOk rn (u.rg i)) : IsRing s (rr i) (rb i) rn (u.rg i).L (u.rg i).G (u.rg i).D :=
  ⟨hw.rne i hi, hw.rn1, hw.rn2, ho.len, by have := ho.g; omega, (he.at (hw.rs u i hi)).1, (he.at (hw.rw u i hi)).1⟩
theorem ring_aft (hw : YW q nr rn rr rb H) {u : CU} {v : Value} {s' : St} {i : Nat} {R' : RgS} (he : Env (cL (B := B) nr rn H) h G u s) (hi : i < nr) (hn : s.n ≤ s'.n)
    (h1 : s'.m (rr i) = some (.raw (.cells #[.slice (some ⟨rb i, 0, none⟩) rn rn, .int .i64 (R'.G + R'.L.length : Nat), .int .i64 R'.G, .int .i64 R'.D] 149 (0, 0)))) (h2 : s'.m (rb i) = some (.raw (.cells (flat fSl (slots R'.L R'.G rn)).toArray 151 (0, 0))))
    (hk : ∀ c y, c ≠ rr i → c ≠ rb i → s.m c = some y → s'.m c = some y) : Aft (cL (B := B) nr rn H) (fun _ h' => h' = h) G { u with rg := updL u.rg i R' } s v s' := by
  refine Aft.world he hn (fun c y hn hx => ?_) fun c y hy => ?_
  · refine hk c y (fun e => ?_) (fun e => ?_) hx
    · rw [e, hw.rs u i hi] at hn; cases hn
    · rw [e, hw.rw u i hi] at hn; cases hn
  · by_cases e1 : c = rr i
    · subst e1
      rw [hw.rs _ i hi] at hy
      simp only [updL_eq] at hy
      cases hy
      exact ⟨h1, by rw [hw.rs u i hi]; simp⟩
    · by_cases e2 : c = rb i
      · subst e2
        rw [hw.rw _ i hi] at hy
        simp only [updL_eq] at hy
        cases hy
        exact ⟨h2, by rw [hw.rw u i hi]; simp⟩
      · rw [hw.rf u i R' c hi e1 e2] at hy
        exact ⟨hk c y e1 e2 (he.at hy).1, by rw [hy]; simp⟩
/-- 'do': what is done with a queue. -/
theorem poll_ok (hw : YW q nr rn rr rb H) {i : Nat} (hi : i < nr) : OpOk (cL (B := B) nr rn H) (fun u => RgOk rn (u.rg i)) 56 #[.pointer (some ⟨rr i, 0, none⟩)] (fun u r => r = .agg (fAn (ansC (u.rg i) false)).toArray) (fun u => u.po i false) h := by
  intro G (u : CU) s he hp
  have hr := ring_is hw he hi hp
  have hlow := hp.g
  have hrn := hw.rn2
  have hR0 := (he.at (hw.rs u i hi)).1
  have hR1 := (he.at (hw.rw u i hi)).1
  refine Fn.of is56 (by simp) fun hwf => ?_
  have hB := hwf.1
  have n0 := (hwf.2 _ _ hR0).2
  have n1 := (hwf.2 _ _ hR1).2
  simp only [b56, Tryz.f56, Option.getD_some]
  simp -implicitDefEqProofs (disch := first | omega | (simp only [St.set_n, St.up_n, List.length_cons, List.length_nil]; omega)) only [go_sem, Nat.reduceAdd, Nat.reduceMul, Nat.reduceSub, Int.reduceAdd, Int.reduceMul, Int.reduceSub, Int.reduceNeg, Int.reduceToNat]
  have hr1 : IsRing ((s.set s.n (.raw (.cells #[.int .i64 0, .int .i64 0, .int .i64 0, .string ⟨#[]⟩, .string ⟨#[]⟩, .bool false] 64 (0, 0)))).up (s.n + 1)) (rr i) (rb i) rn (u.rg i).L (u.rg i).G (u.rg i).D := ⟨hr.ne, hr.pos, hr.big, hr.full, hr.low, by simp -implicitDefEqProofs (disch := first | omega | (simp only [St.set_n, St.up_n, List.length_cons, List.length_nil]; omega)) only [go_sem, Nat.reduceAdd, Nat.reduceMul, Nat.reduceSub, Int.reduceAdd, Int.reduceMul, Int.reduceSub, Int.reduceNeg, Int.reduceToNat, hR0], by simp -implicitDefEqProofs (disch := first | omega | (simp only [St.set_n, St.up_n, List.length_cons, List.length_nil]; omega)) only [go_sem, Nat.reduceAdd, Nat.reduceMul, Nat.reduceSub, Int.reduceAdd, Int.reduceMul, Int.reduceSub, Int.reduceNeg, Int.reduceToNat, hR1]⟩
  refine callF_wf (ring_get hr1 (by omega) fun τ hτ hnτ hkτ hwτ => ?_)
  simp only [St.up_n] at hnτ
  have ha : τ.m s.n = some (.raw (.cells #[.int .i64 0, .int .i64 0, .int .i64 0, .string ⟨#[]⟩, .string ⟨#[]⟩, .bool false] 64 (0, 0))) := hkτ _ _ (by omega) (by omega) (by simp -implicitDefEqProofs (disch := first | omega | (simp only [St.set_n, St.up_n, List.length_cons, List.length_nil]; omega)) only [go_sem, Nat.reduceAdd, Nat.reduceMul, Nat.reduceSub, Int.reduceAdd, Int.reduceMul, Int.reduceSub, Int.reduceNeg, Int.reduceToNat])
  have hk : ∀ c y, c ≠ rr i → c ≠ rb i → s.m c = some y → τ.m c = some y := fun c y h1 h2 hx => hkτ c y h1 h2 (by have := (hwf.2 _ _ hx).2; simp -implicitDefEqProofs (disch := first | omega | (simp only [St.set_n, St.up_n, List.length_cons, List.length_nil]; omega)) only [go_sem, Nat.reduceAdd, Nat.reduceMul, Nat.reduceSub, Int.reduceAdd, Int.reduceMul, Int.reduceSub, Int.reduceNeg, Int.reduceToNat, hx])
  have t0 := hτ.root
  have t1 := hτ.row
  have m0' := (hwτ.2 _ _ t0).2
  have m1' := (hwτ.2 _ _ t1).2
  have z0 : rr i ≠ s.n := by omega
  have z1 : rb i ≠ s.n := by omega
  have e : (u.po i false) = { u with rg := updL u.rg i (pollR (u.rg i)) } := rfl
  by_cases hL : (u.rg i).L.length = 0
  · simp -implicitDefEqProofs (disch := first | omega | (simp only [St.set_n, St.up_n, List.length_cons, List.length_nil]; omega)) only [go_sem, Nat.reduceAdd, Nat.reduceMul, Nat.reduceSub, Int.reduceAdd, Int.reduceMul, Int.reduceSub, Int.reduceNeg, Int.reduceToNat, hL, fM, ha]
    refine ⟨by simp [ansC, pollA, hL, fAn, anE], ?_⟩
    rw [e]
    refine ring_aft hw he hi (by simp only [St.up_n, St.set_n]; omega) ?_ ?_ fun c y h1 h2 hx => ?_
    · have := t0
      simp only [hL, if_true] at this
      unfold pollR
      simp only [hL, if_true]
      simp -implicitDefEqProofs (disch := first | omega | (simp only [St.set_n, St.up_n, List.length_cons, List.length_nil]; omega)) only [go_sem, Nat.reduceAdd, Nat.reduceMul, Nat.reduceSub, Int.reduceAdd, Int.reduceMul, Int.reduceSub, Int.reduceNeg, Int.reduceToNat, this]
    · have := t1
      simp only [hL, if_true] at this
      unfold pollR
      simp only [hL, if_true]
      simp -implicitDefEqProofs (disch := first | omega | (simp only [St.set_n, St.up_n, List.length_cons, List.length_nil]; omega)) only [go_sem, Nat.reduceAdd, Nat.reduceMul, Nat.reduceSub, Int.reduceAdd, Int.reduceMul, Int.reduceSub, Int.reduceNeg, Int.reduceToNat, this]
    · have h3 := hk c y h1 h2 hx
      have := (hwf.2 _ _ hx).2
      simp -implicitDefEqProofs (disch := first | omega | (simp only [St.set_n, St.up_n, List.length_cons, List.length_nil]; omega)) only [go_sem, Nat.reduceAdd, Nat.reduceMul, Nat.reduceSub, Int.reduceAdd, Int.reduceMul, Int.reduceSub, Int.reduceNeg, Int.reduceToNat, h3]
  · simp -implicitDefEqProofs (disch := first | omega | (simp only [St.set_n, St.up_n, List.length_cons, List.length_nil]; omega)) only [go_sem, Nat.reduceAdd, Nat.reduceMul, Nat.reduceSub, Int.reduceAdd, Int.reduceMul, Int.reduceSub, Int.reduceNeg, Int.reduceToNat, hL, fM, ha]
    refine ⟨by simp [ansC, pollA, hL, fAn], ?_⟩
    rw [e]
    refine ring_aft hw he hi (by simp only [St.up_n, St.set_n]; omega) ?_ ?_ fun c y h1 h2 hx => ?_
    · have := t0
      simp only [hL, if_false] at this
      unfold pollR
      simp only [hL, if_false]
      simp -implicitDefEqProofs (disch := first | omega | (simp only [St.set_n, St.up_n, List.length_cons, List.length_nil]; omega)) only [go_sem, Nat.reduceAdd, Nat.reduceMul, Nat.reduceSub, Int.reduceAdd, Int.reduceMul, Int.reduceSub, Int.reduceNeg, Int.reduceToNat, this]
    · have := t1
      simp only [hL, if_false] at this
      unfold pollR
      simp only [hL, if_false]
      simp -implicitDefEqProofs (disch := first | omega | (simp only [St.set_n, St.up_n, List.length_cons, List.length_nil]; omega)) only [go_sem, Nat.reduceAdd, Nat.reduceMul, Nat.reduceSub, Int.reduceAdd, Int.reduceMul, Int.reduceSub, Int.reduceNeg, Int.reduceToNat, this]
    · have h3 := hk c y h1 h2 hx
      have := (hwf.2 _ _ hx).2
      have := (hwτ.2 _ _ h3).2
      simp -implicitDefEqProofs (disch := first | omega | (simp only [St.set_n, St.up_n, List.length_cons, List.length_nil]; omega)) only [go_sem, Nat.reduceAdd, Nat.reduceMul, Nat.reduceSub, Int.reduceAdd, Int.reduceMul, Int.reduceSub, Int.reduceNeg, Int.reduceToNat, h3]
theorem drop_ok (hw : YW q nr rn rr rb H) {i : Nat} (hi : i < nr) : OpOk (cL (B := B) nr rn H) (fun u => RgOk rn (u.rg i)) 58 #[.pointer (some ⟨rr i, 0, none⟩)] (fun u r => r = .agg (fAn (ansC (u.rg i) true)).toArray) (fun u => u.po i true) h := by
  intro G (u : CU) s he hp
  have hr := ring_is hw he hi hp
  have hR0 := (he.at (hw.rs u i hi)).1
  have hR1 := (he.at (hw.rw u i hi)).1
  refine Fn.of is58 (by simp) fun hwf => ?_
  have hB := hwf.1
  have n0 := (hwf.2 _ _ hR0).2
  have n1 := (hwf.2 _ _ hR1).2
  simp only [b58, Tryz.f58, Option.getD_some]
  simp -implicitDefEqProofs (disch := first | omega | (simp only [St.set_n, St.up_n, List.length_cons, List.length_nil]; omega)) only [go_sem, Nat.reduceAdd, Nat.reduceMul, Nat.reduceSub, Int.reduceAdd, Int.reduceMul, Int.reduceSub, Int.reduceNeg, Int.reduceToNat]
  have hr1 : IsRing ((s.set s.n (.raw (.cells #[.int .i64 0, .int .i64 0, .int .i64 0, .string ⟨#[]⟩, .string ⟨#[]⟩, .bool false] 64 (0, 0)))).up (s.n + 1)) (rr i) (rb i) rn (u.rg i).L (u.rg i).G (u.rg i).D := ⟨hr.ne, hr.pos, hr.big, hr.full, hr.low, by simp -implicitDefEqProofs (disch := first | omega | (simp only [St.set_n, St.up_n, List.length_cons, List.length_nil]; omega)) only [go_sem, Nat.reduceAdd, Nat.reduceMul, Nat.reduceSub, Int.reduceAdd, Int.reduceMul, Int.reduceSub, Int.reduceNeg, Int.reduceToNat, hR0], by simp -implicitDefEqProofs (disch := first | omega | (simp only [St.set_n, St.up_n, List.length_cons, List.length_nil]; omega)) only [go_sem, Nat.reduceAdd, Nat.reduceMul, Nat.reduceSub, Int.reduceAdd, Int.reduceMul, Int.reduceSub, Int.reduceNeg, Int.reduceToNat, hR1]⟩
  refine callF_of (ring_drops hr1 ?_)
  simp -implicitDefEqProofs (disch := first | omega | (simp only [St.set_n, St.up_n, List.length_cons, List.length_nil]; omega)) only [go_sem, Nat.reduceAdd, Nat.reduceMul, Nat.reduceSub, Int.reduceAdd, Int.reduceMul, Int.reduceSub, Int.reduceNeg, Int.reduceToNat]
  refine ⟨by simp [ansC, dropA, fAn], ?_⟩
  have e : (u.po i true) = u := by
    unfold CU.po rgC
    have : updL u.rg i (u.rg i) = u.rg := by
      funext j
      unfold updL
      split
      · rename_i e; subst e; rfl
      · rfl
    simp only [if_true, this]
  rw [e]
  refine Aft.world he (by simp only [St.up_n, St.set_n]; omega) (fun c y _ hx => by have := (hwf.2 _ _ hx).2; simp -implicitDefEqProofs (disch := first | omega | (simp only [St.set_n, St.up_n, List.length_cons, List.length_nil]; omega)) only [go_sem, Nat.reduceAdd, Nat.reduceMul, Nat.reduceSub, Int.reduceAdd, Int.reduceMul, Int.reduceSub, Int.reduceNeg, Int.reduceToNat, hx]) fun c y hy => ?_
  have h1 := (he.at hy).1
  have := (hwf.2 _ _ h1).2
  exact ⟨by simp -implicitDefEqProofs (disch := first | omega | (simp only [St.set_n, St.up_n, List.length_cons, List.length_nil]; omega)) only [go_sem, Nat.reduceAdd, Nat.reduceMul, Nat.reduceSub, Int.reduceAdd, Int.reduceMul, Int.reduceSub, Int.reduceNeg, Int.reduceToNat, h1], by rw [hy]; simp⟩
end
end Go.Proofs.YtdbgeahmhfocaaaGreat
