/- 'EpochSafe': the walk. -/
import Derived.Test.YtgcojbgkenndhaaETell
namespace Go.Proofs.Ytgcojbgkenndhaa
set_option pp.deepTerms false
set_option pp.deepTerms.threshold 8
set_option linter.unusedSimpArgs false
set_option linter.unusedVariables false
set_option maxRecDepth 100000
open Go Go.RowKit
section
variable {B : World} {σ : St} {K : Value → St → Prop}

theorem slot8 (x : Int) : ∃ t : Nat, (x.tmod 8 + 8).tmod 8 = (t : Int) ∧ t < 8 ∧ -8 < x.tmod 8 ∧ x.tmod 8 < 8 := by
  have h1 : -8 < x.tmod 8 := Int.lt_tmod_of_pos x (by omega)
  have h2 : x.tmod 8 < 8 := Int.tmod_lt_of_pos x (by omega)
  refine ⟨((x.tmod 8 + 8) % 8).toNat, ?_, by omega, h1, h2⟩
  rw [Int.tmod_eq_emod_of_nonneg (by omega)]
  omega
theorem zc_bools (n : Nat) : zc (.bool false) n = (bools (List.replicate n false)).toArray := by
  have hl : (zc (.bool false) n).size = n := by simp [zc, zcells]
  apply Array.ext
  · rw [hl]; simp [bools]
  · intro i h1 h2
    simp [zc, zcells, bools, Value.cells, Array.getElem_map, Nat.mod_one]
/-- What the law's frame holds: the epochs at 'q', the variables 'who' and 'told' at 'aw', 'ad'. -/
structure Em (q aw ad : Nat) (e : Fr) : Prop where
  v3 : e.v 3 = .pointer (some ⟨q, 0, none⟩)
  v4 : e.v 4 = .pointer (some ⟨aw, 0, none⟩)
  v5 : e.v 5 = .pointer (some ⟨ad, 0, none⟩)
  v6 : e.v 6 = .func (.func 14) #[] #[.pointer (some ⟨aw, 0, none⟩), .pointer (some ⟨ad, 0, none⟩)]
  d : e.d = []
structure Sm (σ : St) (q aw ad : Nat) (S : ES) (Z : List (Int × Int)) (who : List Row) (told : List Bool) (wv tv : Value) (s : St) : Prop where
  ep : s.m q = some (.comp (EpR S q))
  sf : Sf S Z who.length told
  cw : s.m aw = some (.raw (.cells #[wv] 26 (0, 0)))
  cd : s.m ad = some (.raw (.cells #[tv] 27 (0, 0)))
  ow : Own s 29 8 (flat fR who) who.length wv
  ot : Own s 4 1 (bools told) told.length tv
  dwt : Dis wv tv
  nw : ∀ b, blk wv = some b → σ.n ≤ b ∧ b ≠ q ∧ b ≠ aw ∧ b ≠ ad
  nt : ∀ b, blk tv = some b → σ.n ≤ b ∧ b ≠ q ∧ b ≠ aw ∧ b ≠ ad
  q1 : σ.n ≤ q ∧ σ.n ≤ aw ∧ σ.n ≤ ad ∧ q ≠ aw ∧ q ≠ ad ∧ aw ≠ ad ∧ q < s.n
  old : ∀ c x, c < σ.n → σ.m c = some x → s.m c = some x
theorem Sm.ep' {q aw ad : Nat} {S S' : ES} {Z Z' : List (Int × Int)} {who : List Row} {told : List Bool} {wv tv : Value} {s τ : St} (h : Sm σ q aw ad S Z who told wv tv s) (hS : Sf S' Z' who.length told) (hq : τ.m q = some (.comp (EpR S' q))) (hk : ∀ c x, c ≠ q → s.m c = some x → τ.m c = some x) (hn : s.n ≤ τ.n) : Sm σ q aw ad S' Z' who told wv tv τ := by
  obtain ⟨h1, h2, h3, h4, h5, h6, h7⟩ := h.q1
  exact ⟨hq, hS, hk _ _ (Ne.symm h4) h.cw, hk _ _ (Ne.symm h5) h.cd, h.ow.keepR fun b o hb ho => hk _ _ (h.nw b hb).2.1 ho, h.ot.keepR fun b o hb ho => hk _ _ (h.nt b hb).2.1 ho, h.dwt, h.nw, h.nt, ⟨h1, h2, h3, h4, h5, h6, by omega⟩, fun c x hc hx => hk _ _ (by omega) (h.old c x hc hx)⟩
theorem Sm.who' {q aw ad bw cw N : Nat} {S : ES} {Z : List (Int × Int)} {who who' : List Row} {told : List Bool} {tv : Value} {s : St} {sp : List Value} (h : Sm σ q aw ad S Z who told (.slice (some ⟨bw, 0, none⟩) N cw) tv s) (hN : who.length = N) (hl : who'.length = N) (hc : N ≤ cw) (hs : (flat fR who' ++ sp).length = cw * 8) :
    Sm σ q aw ad S Z who' told (.slice (some ⟨bw, 0, none⟩) N cw) tv (s.set bw (.raw (.cells (flat fR who' ++ sp).toArray 29 (0, 0)))) := by
  obtain ⟨n1, n2, n3, n4⟩ := h.nw bw rfl
  obtain ⟨h1, h2, h3, h4, h5, h6, h7⟩ := h.q1
  have hk : ∀ c x, c ≠ bw → s.m c = some x → (s.set bw (.raw (.cells (flat fR who' ++ sp).toArray 29 (0, 0)))).m c = some x := fun c x hc hx => by rw [St.set_m_ne _ _ hc]; exact hx
  refine ⟨hk _ _ (Ne.symm n2) h.ep, by rw [hl, ← hN]; exact h.sf, hk _ _ (Ne.symm n3) h.cw, hk _ _ (Ne.symm n4) h.cd, ?_, h.ot.keepR fun b o hb ho => hk _ _ (fun e => h.dwt bw rfl (e ▸ hb)) ho, h.dwt, h.nw, h.nt, h.q1, fun c x hc hx => hk _ _ (by omega) (h.old c x hc hx)⟩
  rw [hl]
  exact Own.of' (sp := sp) (by simp -implicitDefEqProofs (disch := first | omega | (simp only [St.set_n, St.up_n, List.length_cons, List.length_nil]; omega)) only [go_sem, Nat.reduceAdd, Nat.reduceMul, Nat.reduceSub, Int.reduceAdd, Int.reduceMul, Int.reduceSub, Int.reduceNeg, Int.reduceToNat]) (by rw [flat_length fR_len, hl]) hc hs
theorem Sm.told {q aw ad : Nat} {S S' : ES} {Z Z' : List (Int × Int)} {who : List Row} {told told' : List Bool} {wv tv : Value} {s s1 τ : St} (h : Sm σ q aw ad S Z who told wv tv s) (hq : s1.m q = some (.comp (EpR S' q))) (hk : ∀ c x, c ≠ q → s.m c = some x → s1.m c = some x) (hn : s.n ≤ s1.n)
    (hT : Ts s1 tv told' τ) (hS : Sf S' Z' who.length told') : Sm σ q aw ad S' Z' who told' wv tv τ := by
  obtain ⟨h1, h2, h3, h4, h5, h6, h7⟩ := h.q1
  have hk2 : ∀ c x, c ≠ q → blk tv ≠ some c → s.m c = some x → τ.m c = some x := fun c x hc ht hx => (hT.old c ht).trans (hk c x hc hx)
  exact ⟨(hT.old q fun e => (h.nt q e).2.1 rfl).trans hq, hS, hk2 _ _ (Ne.symm h4) (fun e => (h.nt _ e).2.2.1 rfl) h.cw, hk2 _ _ (Ne.symm h5) (fun e => (h.nt _ e).2.2.2 rfl) h.cd,
    h.ow.keepR fun b o hb ho => hk2 _ _ (h.nw b hb).2.1 (h.dwt b hb) ho, hT.own, h.dwt, h.nw, h.nt, ⟨h1, h2, h3, h4, h5, h6, by rw [hT.n]; omega⟩,
    fun c x hc hx => hk2 _ _ (by omega) (fun e => by have := (h.nt _ e).1; omega) (h.old c x hc hx)⟩
/-- A block that is none of these. -/
structure Nb (σ : St) (q aw ad : Nat) (wv tv : Value) (nb : Nat) : Prop where
  lo : σ.n ≤ nb
  nq : nb ≠ q
  nw : nb ≠ aw
  nd : nb ≠ ad
  w : blk wv ≠ some nb
  t : blk tv ≠ some nb
theorem Sm.keep {q aw ad nb : Nat} {S : ES} {Z : List (Int × Int)} {who : List Row} {told : List Bool} {wv tv : Value} {s τ : St} (h : Sm σ q aw ad S Z who told wv tv s) (hb : Nb σ q aw ad wv tv nb) (hk : ∀ c x, c ≠ nb → s.m c = some x → τ.m c = some x) (hn : s.n ≤ τ.n) : Sm σ q aw ad S Z who told wv tv τ := by
  obtain ⟨h1, h2, h3, h4, h5, h6, h7⟩ := h.q1
  exact ⟨hk _ _ (Ne.symm hb.nq) h.ep, h.sf, hk _ _ (Ne.symm hb.nw) h.cw, hk _ _ (Ne.symm hb.nd) h.cd, h.ow.keepR fun b o hbb ho => hk _ _ (fun e => hb.w (e ▸ hbb)) ho, h.ot.keepR fun b o hbb ho => hk _ _ (fun e => hb.t (e ▸ hbb)) ho, h.dwt, h.nw, h.nt, ⟨h1, h2, h3, h4, h5, h6, by omega⟩, fun c x hc hx => hk _ _ (by have := hb.lo; omega) (h.old c x hc hx)⟩
theorem Sm.fresh {q aw ad : Nat} {S : ES} {Z : List (Int × Int)} {who : List Row} {told : List Bool} {wv tv : Value} {s : St} (h : Sm σ q aw ad S Z who told wv tv s) (hwf : s.wf B) : Nb σ q aw ad wv tv s.n := by
  have a1 := (hwf.2 _ _ h.cw).2
  have a2 := (hwf.2 _ _ h.cd).2
  obtain ⟨h1, h2, h3, h4, h5, h6, h7⟩ := h.q1
  refine ⟨by omega, by omega, by omega, by omega, fun e => ?_, fun e => ?_⟩
  · obtain ⟨o, ho⟩ := h.ow.at_ e; have := (hwf.2 _ _ ho).2; omega
  · obtain ⟨o, ho⟩ := h.ot.at_ e; have := (hwf.2 _ _ ho).2; omega
theorem isPin_lt {pin : List Int} {t : Nat} (h : isPin pin t = true) : t < pin.length := by
  obtain ⟨e, he, _⟩ := isPin_iff.1 h
  exact (List.getElem?_eq_some_iff.1 he).1
theorem fR_clr (r : Row) {t : Nat} (ht : t < 8) : fR (clr t r) = (fR r).set t (.bool false) := by
  have : t = 0 ∨ t = 1 ∨ t = 2 ∨ t = 3 ∨ t = 4 ∨ t = 5 ∨ t = 6 ∨ t = 7 := by omega
  rcases this with rfl | rfl | rfl | rfl | rfl | rfl | rfl | rfl <;> rfl
/-- Some of the rows are cleared. -/
def clrTo (who : List Row) (t c : Nat) : List Row := (who.take c).map (clr t) ++ who.drop c
theorem clrTo_len (who : List Row) (t c : Nat) : (clrTo who t c).length = who.length := by
  simp only [clrTo, List.length_append, List.length_map, List.length_take, List.length_drop]; omega
theorem clrTo_get {who : List Row} {t c : Nat} {r : Row} (h : who[c]? = some r) : (clrTo who t c)[c]? = some r := by
  have hc := (List.getElem?_eq_some_iff.1 h).1
  unfold clrTo
  rw [List.getElem?_append_right (by simp; omega)]
  simp only [List.length_map, List.length_take, List.getElem?_drop]
  rw [← h]; congr 1; omega
theorem clrTo_set {who : List Row} {t c : Nat} {r : Row} (h : who[c]? = some r) : (clrTo who t c).set c (clr t r) = clrTo who t (c + 1) := by
  have hc := (List.getElem?_eq_some_iff.1 h).1
  have hr := (List.getElem?_eq_some_iff.1 h).2
  have hl : ((who.take c).map (clr t)).length = c := by simp; omega
  unfold clrTo
  rw [take_snoc h, List.drop_eq_getElem_cons hc, hr, List.set_append_right _ _ (by omega), hl, Nat.sub_self]
  simp
theorem clrTo_zero (who : List Row) (t : Nat) : clrTo who t 0 = who := by simp [clrTo]
theorem clrTo_all (who : List Row) (t : Nat) : clrTo who t who.length = who.map (clr t) := by simp [clrTo]
structure Ml (σ : St) (a : Option Addr) (N cap q aw ad i i' : Nat) (e : Fr) (s : St) : Prop where
  em : Em q aw ad e
  v0 : e.v 0 = .slice a N cap
  v7 : e.v 7 = .int .i64 i
  sm : ∃ (S : ES) (Z : List (Int × Int)) (who : List Row) (told : List Bool) (wv tv : Value), Sm σ q aw ad S Z who told wv tv s ∧ Seen S Z who ∧ who.length ≤ i' ∧ S.now ≤ i' ∧ Z.length ≤ i'
def rowTo (pin : List Int) (c : Nat) : Row := fun t => if t < c then isPin pin t else false
theorem rowTo_set (pin : List Int) {c : Nat} (hc : c < 8) : (fR (rowTo pin c)).set c (.bool (isPin pin c)) = fR (rowTo pin (c + 1)) := by
  have : c = 0 ∨ c = 1 ∨ c = 2 ∨ c = 3 ∨ c = 4 ∨ c = 5 ∨ c = 6 ∨ c = 7 := by omega
  rcases this with rfl | rfl | rfl | rfl | rfl | rfl | rfl | rfl <;> simp [fR, rowTo]
structure Mr (a : Option Addr) (N cap q aw ad i nb c : Nat) (e : Fr) : Prop where
  em : Em q aw ad e
  v0 : e.v 0 = .slice a N cap
  v7 : e.v 7 = .int .i64 i
  v10 : e.v 10 = .pointer (some ⟨nb, 0, none⟩)
  v11 : e.v 11 = .int .i64 c
structure Mc (a : Option Addr) (N cap q aw ad i t c : Nat) (e : Fr) : Prop where
  em : Em q aw ad e
  v0 : e.v 0 = .slice a N cap
  v7 : e.v 7 = .int .i64 i
  v8 : e.v 8 = .int .i64 t
  v9 : e.v 9 = .int .i64 c
structure Mu (q aw ad c : Nat) (e : Fr) : Prop where
  em : Em q aw ad e
  v14 : e.v 14 = .int .i64 c
structure Us (σ : St) (q aw ad now c : Nat) (Z : List (Int × Int)) (who : List Row) (told : List Bool) (wv tv : Value) (S : ES) (s : St) : Prop where
  sm : Sm σ q aw ad S Z who told wv tv s
  pins : ∀ t, t < c → S.pin[t]? = some (-1)
  now_ : S.now = now
theorem zc_rows {z : Value} (h : z.cells = #[.bool false, .bool false, .bool false, .bool false, .bool false, .bool false, .bool false, .bool false]) (n : Nat) : zc z (n * 8) = (flat fR (List.replicate n fun _ => false)).toArray := by
  have hl : (zc z (n * 8)).size = n * 8 := by simp [zc, zcells]
  apply Array.ext
  · rw [hl]; simp [flat_length fR_len]
  · intro i h1 h2
    rw [hl] at h1
    have hi : i = i / 8 * 8 + i % 8 := by omega
    have hq : i / 8 < n := by omega
    have hL : (List.replicate n (fun _ => false : Row))[i / 8]? = some (fun _ => false) := by simp [hq]
    have h3 : i % 8 = 0 ∨ i % 8 = 1 ∨ i % 8 = 2 ∨ i % 8 = 3 ∨ i % 8 = 4 ∨ i % 8 = 5 ∨ i % 8 = 6 ∨ i % 8 = 7 := by omega
    have e1 : (zc z (n * 8))[i]? = some (.bool false) := by
      simp only [zc, zcells, h, Array.getElem?_map]
      rw [Array.getElem?_range]
      simp only [h1, if_true, Option.map_some, List.size_toArray, List.length_cons, List.length_nil]
      rcases h3 with h3 | h3 | h3 | h3 | h3 | h3 | h3 | h3 <;> simp [h3]
    have e2 : (flat fR (List.replicate n fun _ => false)).toArray[i]? = some (.bool false) := by
      have := flat_get fR_len (List.replicate n fun _ => false) [] (i / 8) (fun _ => false) (i % 8) (.bool false) hL (fR_get _ (by omega))
      rw [← hi] at this
      simpa using this
    rw [Array.getElem?_eq_getElem (by rw [hl]; exact h1)] at e1
    rw [Array.getElem?_eq_getElem h2] at e2
    exact Option.some.inj (e1.trans e2.symm)
structure Mv (q aw ad c : Nat) (e : Fr) : Prop where
  em : Em q aw ad e
  v15 : e.v 15 = .int .i64 c
structure Mw (q aw ad c : Nat) (e : Fr) : Prop where
  em : Em q aw ad e
  v18 : e.v 18 = .int .i64 c
structure Seq (s s' : St) : Prop where
  eq : s' = s
structure Ua (σ : St) (q aw ad c : Nat) (who : List Row) (wv tv : Value) (S : ES) (Z : List (Int × Int)) (told : List Bool) (s : St) : Prop where
  sm : Sm σ q aw ad S Z who told wv tv s
  pins : ∀ x ∈ S.pin, x = -1
  zs : ∀ z ∈ Z, z.2 + c ≤ S.now
  zl : Z.length ≤ 300
  nl : S.now ≤ 300 + c
theorem seen_none {S : ES} {Z : List (Int × Int)} {n : Nat} : Seen S Z (List.replicate n fun _ => false) := by
  intro z _ i r t _ hr _ hrt
  rw [List.getElem?_replicate] at hr
  split at hr
  · cases hr; cases hrt
  · cases hr
theorem no_late {pin : List Int} (h : ∀ x ∈ pin, x = -1) (now : Int) : pin.any (late now) = false := by
  rw [List.any_eq_false]
  intro x hx
  rw [h x hx]
  simp [late]
set_option maxHeartbeats 4000000 in
theorem safe09 {l : List (Int × Int)} {v : Value} (hl : SlR B 2 RDeed l v) (hK : ∀ k, σ.n ≤ k → K (.bool true) (σ.up k)) : Fn Try.prog B 3 #[v] σ K := by
  obtain ⟨a, cap, rfl, hlc, hcm, hnil, hat⟩ := hl
  refine Fn.of' is3 (by simp) fun hwf => ?_
  have hB := hwf.1
  simp only [b3, Try.f3, Option.getD_some]
  simp -implicitDefEqProofs (disch := first | omega | (simp only [St.set_n, St.up_n, List.length_cons, List.length_nil]; omega)) only [go_sem, Nat.reduceAdd, Nat.reduceMul, Nat.reduceSub, Int.reduceAdd, Int.reduceMul, Int.reduceSub, Int.reduceNeg, Int.reduceToNat]
  refine callF_of (awake09 fun k hk => ?_)
  simp -implicitDefEqProofs (disch := first | omega | (simp only [St.set_n, St.up_n, List.length_cons, List.length_nil]; omega)) only [go_sem, Nat.reduceAdd, Nat.reduceMul, Nat.reduceSub, Int.reduceAdd, Int.reduceMul, Int.reduceSub, Int.reduceNeg, Int.reduceToNat]
  by_cases h300 : (300 : Int) < l.length
  · simp -implicitDefEqProofs (disch := first | omega | (simp only [St.set_n, St.up_n, List.length_cons, List.length_nil]; omega)) only [go_sem, Nat.reduceAdd, Nat.reduceMul, Nat.reduceSub, Int.reduceAdd, Int.reduceMul, Int.reduceSub, Int.reduceNeg, Int.reduceToNat, h300]
    exact ⟨_, To.same (fun d y h2 h3 => by simp -implicitDefEqProofs (disch := first | omega | (simp only [St.set_n, St.up_n, List.length_cons, List.length_nil]; omega)) only [go_sem, Nat.reduceAdd, Nat.reduceMul, Nat.reduceSub, Int.reduceAdd, Int.reduceMul, Int.reduceSub, Int.reduceNeg, Int.reduceToNat, h3]) hwf, hK _ (by simp only [St.up_n]; omega)⟩
  simp -implicitDefEqProofs (disch := first | omega | (simp only [St.set_n, St.up_n, List.length_cons, List.length_nil]; omega)) only [go_sem, Nat.reduceAdd, Nat.reduceMul, Nat.reduceSub, Int.reduceAdd, Int.reduceMul, Int.reduceSub, Int.reduceNeg, Int.reduceToNat, h300]
  refine callF_of (ep_new (n := 8) (by omega) fun k1 hk1 => ?_)
  simp only [St.up_n] at hk1
  simp -implicitDefEqProofs (disch := first | omega | (simp only [St.set_n, St.up_n, List.length_cons, List.length_nil]; omega)) only [go_sem, Nat.reduceAdd, Nat.reduceMul, Nat.reduceSub, Int.reduceAdd, Int.reduceMul, Int.reduceSub, Int.reduceNeg, Int.reduceToNat]
  have hSm : Sm σ k k1 (k1 + 1 + 1) { now := 0, pin := List.replicate 8 (-1), l0 := [], l1 := [], l2 := [] } [] [] (List.replicate 300 false) (.slice none 0 0) (.slice (some ⟨k1 + 1, 0, none⟩) 300 300) (((((σ.set k (.comp (EpR { now := 0, pin := List.replicate 8 (-1), l0 := [], l1 := [], l2 := [] } k))).set k1 (.raw (.cells #[.slice none 0 0] 26 (0, 0)))).set (k1 + 1) (.raw (.cells (zc (.bool false) 300) 4 (0, 0)))).set (k1 + 1 + 1) (.raw (.cells #[.slice (some ⟨k1 + 1, 0, none⟩) 300 300] 27 (0, 0)))).up (k1 + 1 + 1 + 1)) := by
    refine ⟨by simp -implicitDefEqProofs (disch := first | omega | (simp only [St.set_n, St.up_n, List.length_cons, List.length_nil]; omega)) only [go_sem, Nat.reduceAdd, Nat.reduceMul, Nat.reduceSub, Int.reduceAdd, Int.reduceMul, Int.reduceSub, Int.reduceNeg, Int.reduceToNat], ⟨LK.of (fun z hz => (by cases hz)) (fun j hj => ?_), rfl, fun t e he => ?_, by rw [List.length_replicate], by simp, fun z hz => (by cases hz), List.nodup_nil, fun i hi => absurd hi (by simp), fun i _ hi => ?_⟩, by simp -implicitDefEqProofs (disch := first | omega | (simp only [St.set_n, St.up_n, List.length_cons, List.length_nil]; omega)) only [go_sem, Nat.reduceAdd, Nat.reduceMul, Nat.reduceSub, Int.reduceAdd, Int.reduceMul, Int.reduceSub, Int.reduceNeg, Int.reduceToNat], by simp -implicitDefEqProofs (disch := first | omega | (simp only [St.set_n, St.up_n, List.length_cons, List.length_nil]; omega)) only [go_sem, Nat.reduceAdd, Nat.reduceMul, Nat.reduceSub, Int.reduceAdd, Int.reduceMul, Int.reduceSub, Int.reduceNeg, Int.reduceToNat], Own.nil, ?_, fun b hb => (by cases hb), fun b hb => (by cases hb), fun b hb => ?_, by simp only [St.up_n]; omega, fun c x hc hx => by simp -implicitDefEqProofs (disch := first | omega | (simp only [St.set_n, St.up_n, List.length_cons, List.length_nil]; omega)) only [go_sem, Nat.reduceAdd, Nat.reduceMul, Nat.reduceSub, Int.reduceAdd, Int.reduceMul, Int.reduceSub, Int.reduceNeg, Int.reduceToNat, hx]⟩
    · have h2 : j = 0 ∨ j = 1 ∨ j = 2 := by omega
      rcases h2 with rfl | rfl | rfl <;> rfl
    · left
      simp only [List.getElem?_replicate] at he
      split at he
      · exact (Option.some.inj he).symm
      · cases he
    · rw [List.getElem?_replicate, if_pos hi]
    · rw [List.length_replicate]
      refine Own.of' (sp := []) ?_ (by simp [bools]) (Nat.le_refl _) (by simp [bools])
      simp -implicitDefEqProofs (disch := first | omega | (simp only [St.set_n, St.up_n, List.length_cons, List.length_nil]; omega)) only [go_sem, Nat.reduceAdd, Nat.reduceMul, Nat.reduceSub, Int.reduceAdd, Int.reduceMul, Int.reduceSub, Int.reduceNeg, Int.reduceToNat]
      rw [zc_bools]
    · simp only [blk, Option.some.injEq] at hb
      omega
  generalize (((((σ.set k (.comp (EpR { now := 0, pin := List.replicate 8 (-1), l0 := [], l1 := [], l2 := [] } k))).set k1 (.raw (.cells #[.slice none 0 0] 26 (0, 0)))).set (k1 + 1) (.raw (.cells (zc (.bool false) 300) 4 (0, 0)))).set (k1 + 1 + 1) (.raw (.cells #[.slice (some ⟨k1 + 1, 0, none⟩) 300 300] 27 (0, 0)))).up (k1 + 1 + 1 + 1)) = s0 at hSm ⊢
  refine LoopS.of (SemS.loop (fun m e s => ∃ (i : Nat), m = l.length - i ∧ i ≤ l.length ∧ Ml σ a l.length cap k k1 (k1 + 1 + 1) i i e s) l.length ?_ ?_)
  · exact ⟨0, by omega, by omega, ⟨⟨by simp -implicitDefEqProofs (disch := first | omega | (simp only [St.set_n, St.up_n, List.length_cons, List.length_nil]; omega)) only [go_sem, Nat.reduceAdd, Nat.reduceMul, Nat.reduceSub, Int.reduceAdd, Int.reduceMul, Int.reduceSub, Int.reduceNeg, Int.reduceToNat], by simp -implicitDefEqProofs (disch := first | omega | (simp only [St.set_n, St.up_n, List.length_cons, List.length_nil]; omega)) only [go_sem, Nat.reduceAdd, Nat.reduceMul, Nat.reduceSub, Int.reduceAdd, Int.reduceMul, Int.reduceSub, Int.reduceNeg, Int.reduceToNat], by simp -implicitDefEqProofs (disch := first | omega | (simp only [St.set_n, St.up_n, List.length_cons, List.length_nil]; omega)) only [go_sem, Nat.reduceAdd, Nat.reduceMul, Nat.reduceSub, Int.reduceAdd, Int.reduceMul, Int.reduceSub, Int.reduceNeg, Int.reduceToNat], by simp -implicitDefEqProofs (disch := first | omega | (simp only [St.set_n, St.up_n, List.length_cons, List.length_nil]; omega)) only [go_sem, Nat.reduceAdd, Nat.reduceMul, Nat.reduceSub, Int.reduceAdd, Int.reduceMul, Int.reduceSub, Int.reduceNeg, Int.reduceToNat], by simp -implicitDefEqProofs (disch := first | omega | (simp only [St.set_n, St.up_n, List.length_cons, List.length_nil]; omega)) only [go_sem, Nat.reduceAdd, Nat.reduceMul, Nat.reduceSub, Int.reduceAdd, Int.reduceMul, Int.reduceSub, Int.reduceNeg, Int.reduceToNat]⟩, by simp -implicitDefEqProofs (disch := first | omega | (simp only [St.set_n, St.up_n, List.length_cons, List.length_nil]; omega)) only [go_sem, Nat.reduceAdd, Nat.reduceMul, Nat.reduceSub, Int.reduceAdd, Int.reduceMul, Int.reduceSub, Int.reduceNeg, Int.reduceToNat], by simp -implicitDefEqProofs (disch := first | omega | (simp only [St.set_n, St.up_n, List.length_cons, List.length_nil]; omega)) only [go_sem, Nat.reduceAdd, Nat.reduceMul, Nat.reduceSub, Int.reduceAdd, Int.reduceMul, Int.reduceSub, Int.reduceNeg, Int.reduceToNat]; rfl, _, _, _, _, _, _, hSm, fun z hz => (by cases hz), Nat.le_refl _, Nat.le_refl _, Nat.le_refl _⟩⟩
  · clear hSm
    rintro m e s hws ⟨i, hm, hi, ⟨⟨q3, q4, q5, q6, hd⟩, q0, q7, S, Z, who, told, wv, tv, hF, hS, hwi, hni, hzi⟩⟩
    by_cases hlt : (i : Int) < l.length
    · obtain ⟨⟨kd, x⟩, hacc⟩ : ∃ x, l[i]? = some x := ⟨l[i]'(by omega), List.getElem?_eq_getElem (by omega)⟩
      obtain ⟨b, o, cs, rfl, hb, hR, hsz, hcell⟩ := hat i _ hacc
      simp only [RDeed] at hR
      subst hR
      have c0 : B.cell? ⟨b, o + i * 2, none⟩ = _ := hcell 0 _ rfl
      have c1 := hcell 1 _ rfl
      have hbs := wfLow hws hb
      clear hat hcell hnil hlc hcm hsz
      obtain ⟨t, ht, ht8, hx1, hx2⟩ := slot8 x
      refine SemS.seqw fun _ => ?_
      simp -implicitDefEqProofs (disch := first | omega | (simp only [St.set_n, St.up_n, List.length_cons, List.length_nil]; omega)) only [go_sem, Nat.reduceAdd, Nat.reduceMul, Nat.reduceSub, Int.reduceAdd, Int.reduceMul, Int.reduceSub, Int.reduceNeg, Int.reduceToNat, q0, q7, hlt]
      refine SemS.seq (fun e2 s2 => Ml σ (some ⟨b, o, none⟩) l.length cap k k1 (k1 + 1 + 1) i (i + 1) e2 s2) (SemS.block ?_) ?_
      · refine SemS.seqw fun _ => ?_
        simp -implicitDefEqProofs (disch := first | omega | (simp only [St.set_n, St.up_n, List.length_cons, List.length_nil]; omega)) only [go_sem, Nat.reduceAdd, Nat.reduceMul, Nat.reduceSub, Int.reduceAdd, Int.reduceMul, Int.reduceSub, Int.reduceNeg, Int.reduceToNat, q0, q7, hbs, hb, c1, ht]
        refine SemS.seqw fun _ => ?_
        simp -implicitDefEqProofs (disch := first | omega | (simp only [St.set_n, St.up_n, List.length_cons, List.length_nil]; omega)) only [go_sem, Nat.reduceAdd, Nat.reduceMul, Nat.reduceSub, Int.reduceAdd, Int.reduceMul, Int.reduceSub, Int.reduceNeg, Int.reduceToNat, q0, q7, hbs, hb, c0]
        refine SemS.block ?_
        have hq1 := hF.q1
        have hep := hF.ep
        by_cases hk0 : kd = 0
        · subst hk0
          refine SemS.wp fun _ => ?_
          simp -implicitDefEqProofs (disch := first | omega | (simp only [St.set_n, St.up_n, List.length_cons, List.length_nil]; omega)) only [go_sem, Nat.reduceAdd, Nat.reduceMul, Nat.reduceSub, Int.reduceAdd, Int.reduceMul, Int.reduceSub, Int.reduceNeg, Int.reduceToNat, q3]
          refine callF_of (ep_pin hep fun k2 hk2 => ?_)
          simp -implicitDefEqProofs (disch := first | omega | (simp only [St.set_n, St.up_n, List.length_cons, List.length_nil]; omega)) only [go_sem, Nat.reduceAdd, Nat.reduceMul, Nat.reduceSub, Int.reduceAdd, Int.reduceMul, Int.reduceSub, Int.reduceNeg, Int.reduceToNat, q3]
          refine ⟨_, To.refl _ _, ⟨by simp -implicitDefEqProofs (disch := first | omega | (simp only [St.set_n, St.up_n, List.length_cons, List.length_nil]; omega)) only [go_sem, Nat.reduceAdd, Nat.reduceMul, Nat.reduceSub, Int.reduceAdd, Int.reduceMul, Int.reduceSub, Int.reduceNeg, Int.reduceToNat, q3], by simp -implicitDefEqProofs (disch := first | omega | (simp only [St.set_n, St.up_n, List.length_cons, List.length_nil]; omega)) only [go_sem, Nat.reduceAdd, Nat.reduceMul, Nat.reduceSub, Int.reduceAdd, Int.reduceMul, Int.reduceSub, Int.reduceNeg, Int.reduceToNat, q4], by simp -implicitDefEqProofs (disch := first | omega | (simp only [St.set_n, St.up_n, List.length_cons, List.length_nil]; omega)) only [go_sem, Nat.reduceAdd, Nat.reduceMul, Nat.reduceSub, Int.reduceAdd, Int.reduceMul, Int.reduceSub, Int.reduceNeg, Int.reduceToNat, q5], by simp -implicitDefEqProofs (disch := first | omega | (simp only [St.set_n, St.up_n, List.length_cons, List.length_nil]; omega)) only [go_sem, Nat.reduceAdd, Nat.reduceMul, Nat.reduceSub, Int.reduceAdd, Int.reduceMul, Int.reduceSub, Int.reduceNeg, Int.reduceToNat, q6], by simp -implicitDefEqProofs (disch := first | omega | (simp only [St.set_n, St.up_n, List.length_cons, List.length_nil]; omega)) only [go_sem, Nat.reduceAdd, Nat.reduceMul, Nat.reduceSub, Int.reduceAdd, Int.reduceMul, Int.reduceSub, Int.reduceNeg, Int.reduceToNat, hd]⟩, by simp -implicitDefEqProofs (disch := first | omega | (simp only [St.set_n, St.up_n, List.length_cons, List.length_nil]; omega)) only [go_sem, Nat.reduceAdd, Nat.reduceMul, Nat.reduceSub, Int.reduceAdd, Int.reduceMul, Int.reduceSub, Int.reduceNeg, Int.reduceToNat, q0], by simp -implicitDefEqProofs (disch := first | omega | (simp only [St.set_n, St.up_n, List.length_cons, List.length_nil]; omega)) only [go_sem, Nat.reduceAdd, Nat.reduceMul, Nat.reduceSub, Int.reduceAdd, Int.reduceMul, Int.reduceSub, Int.reduceNeg, Int.reduceToNat, q7], ?_⟩
          by_cases hin : 0 ≤ (t : Int) ∧ (t : Int) < S.pin.length ∧ isPin S.pin t = false
          · rw [if_pos hin]
            exact ⟨{ S with pin := S.pin.set t S.now }, Z, who, told, wv, tv, hF.ep' (hF.sf.pin t) (by simp -implicitDefEqProofs (disch := first | omega | (simp only [St.set_n, St.up_n, List.length_cons, List.length_nil]; omega)) only [go_sem, Nat.reduceAdd, Nat.reduceMul, Nat.reduceSub, Int.reduceAdd, Int.reduceMul, Int.reduceSub, Int.reduceNeg, Int.reduceToNat]) (fun c x hc hx => by simp -implicitDefEqProofs (disch := first | omega | (simp only [St.set_n, St.up_n, List.length_cons, List.length_nil]; omega)) only [go_sem, Nat.reduceAdd, Nat.reduceMul, Nat.reduceSub, Int.reduceAdd, Int.reduceMul, Int.reduceSub, Int.reduceNeg, Int.reduceToNat, hx]) (by simp only [St.up_n, St.set_n]; omega), hS.pin hin.2.2, by omega, by simp only; omega, by omega⟩
          · rw [if_neg hin]
            exact ⟨S, Z, who, told, wv, tv, hF.ep' hF.sf (by simp -implicitDefEqProofs (disch := first | omega | (simp only [St.set_n, St.up_n, List.length_cons, List.length_nil]; omega)) only [go_sem, Nat.reduceAdd, Nat.reduceMul, Nat.reduceSub, Int.reduceAdd, Int.reduceMul, Int.reduceSub, Int.reduceNeg, Int.reduceToNat]) (fun c x hc hx => by simp -implicitDefEqProofs (disch := first | omega | (simp only [St.set_n, St.up_n, List.length_cons, List.length_nil]; omega)) only [go_sem, Nat.reduceAdd, Nat.reduceMul, Nat.reduceSub, Int.reduceAdd, Int.reduceMul, Int.reduceSub, Int.reduceNeg, Int.reduceToNat, hx]) (by simp only [St.up_n, St.set_n]; omega), hS, by omega, by omega, by omega⟩
        by_cases hk1 : kd = 1
        · subst hk1
          refine SemS.wp fun _ => ?_
          simp -implicitDefEqProofs (disch := first | omega | (simp only [St.set_n, St.up_n, List.length_cons, List.length_nil]; omega)) only [go_sem, Nat.reduceAdd, Nat.reduceMul, Nat.reduceSub, Int.reduceAdd, Int.reduceMul, Int.reduceSub, Int.reduceNeg, Int.reduceToNat, q3]
          refine callF_of (ep_unpin hep fun k2 hk2 => ?_)
          simp -implicitDefEqProofs (disch := first | omega | (simp only [St.set_n, St.up_n, List.length_cons, List.length_nil]; omega)) only [go_sem, Nat.reduceAdd, Nat.reduceMul, Nat.reduceSub, Int.reduceAdd, Int.reduceMul, Int.reduceSub, Int.reduceNeg, Int.reduceToNat, q3]
          obtain ⟨S', hS', hnow', hSf', hSe'⟩ : ∃ S', (if isPin S.pin (t : Int) = true then { S with pin := S.pin.set (t : Int).toNat (-1) } else S) = S' ∧ S'.now = S.now ∧ Sf S' Z who.length told ∧ Seen S' Z (who.map (clr t)) := by
            by_cases hp : isPin S.pin (t : Int) = true
            · exact ⟨_, if_pos hp, rfl, hF.sf.unpin t, hS.unpin t⟩
            · exact ⟨_, if_neg hp, rfl, hF.sf, hS.clear t⟩
          simp only [Int.toNat_natCast] at hS'
          rw [hS']
          have hF1 := hF.ep' (τ := (s.set k (.comp (EpR S' k))).up k2) hSf' (by simp -implicitDefEqProofs (disch := first | omega | (simp only [St.set_n, St.up_n, List.length_cons, List.length_nil]; omega)) only [go_sem, Nat.reduceAdd, Nat.reduceMul, Nat.reduceSub, Int.reduceAdd, Int.reduceMul, Int.reduceSub, Int.reduceNeg, Int.reduceToNat]) (fun c x hc hx => by simp -implicitDefEqProofs (disch := first | omega | (simp only [St.set_n, St.up_n, List.length_cons, List.length_nil]; omega)) only [go_sem, Nat.reduceAdd, Nat.reduceMul, Nat.reduceSub, Int.reduceAdd, Int.reduceMul, Int.reduceSub, Int.reduceNeg, Int.reduceToNat, hx]) (by simp only [St.up_n, St.set_n]; omega)
          generalize (s.set k (.comp (EpR S' k))).up k2 = s1 at hF1 ⊢
          refine loop_rule (fun m e s2 => ∃ c : Nat, m = who.length - c ∧ c ≤ who.length ∧ Mc (some ⟨b, o, none⟩) l.length cap k k1 (k1 + 1 + 1) i t c e ∧ Sm σ k k1 (k1 + 1 + 1) S' Z (clrTo who t c) told wv tv s2) who.length ?_ ?_
          · exact ⟨0, by omega, by omega, ⟨⟨by simp -implicitDefEqProofs (disch := first | omega | (simp only [St.set_n, St.up_n, List.length_cons, List.length_nil]; omega)) only [go_sem, Nat.reduceAdd, Nat.reduceMul, Nat.reduceSub, Int.reduceAdd, Int.reduceMul, Int.reduceSub, Int.reduceNeg, Int.reduceToNat, q3], by simp -implicitDefEqProofs (disch := first | omega | (simp only [St.set_n, St.up_n, List.length_cons, List.length_nil]; omega)) only [go_sem, Nat.reduceAdd, Nat.reduceMul, Nat.reduceSub, Int.reduceAdd, Int.reduceMul, Int.reduceSub, Int.reduceNeg, Int.reduceToNat, q4], by simp -implicitDefEqProofs (disch := first | omega | (simp only [St.set_n, St.up_n, List.length_cons, List.length_nil]; omega)) only [go_sem, Nat.reduceAdd, Nat.reduceMul, Nat.reduceSub, Int.reduceAdd, Int.reduceMul, Int.reduceSub, Int.reduceNeg, Int.reduceToNat, q5], by simp -implicitDefEqProofs (disch := first | omega | (simp only [St.set_n, St.up_n, List.length_cons, List.length_nil]; omega)) only [go_sem, Nat.reduceAdd, Nat.reduceMul, Nat.reduceSub, Int.reduceAdd, Int.reduceMul, Int.reduceSub, Int.reduceNeg, Int.reduceToNat, q6], by simp -implicitDefEqProofs (disch := first | omega | (simp only [St.set_n, St.up_n, List.length_cons, List.length_nil]; omega)) only [go_sem, Nat.reduceAdd, Nat.reduceMul, Nat.reduceSub, Int.reduceAdd, Int.reduceMul, Int.reduceSub, Int.reduceNeg, Int.reduceToNat, hd]⟩, by simp -implicitDefEqProofs (disch := first | omega | (simp only [St.set_n, St.up_n, List.length_cons, List.length_nil]; omega)) only [go_sem, Nat.reduceAdd, Nat.reduceMul, Nat.reduceSub, Int.reduceAdd, Int.reduceMul, Int.reduceSub, Int.reduceNeg, Int.reduceToNat, q0], by simp -implicitDefEqProofs (disch := first | omega | (simp only [St.set_n, St.up_n, List.length_cons, List.length_nil]; omega)) only [go_sem, Nat.reduceAdd, Nat.reduceMul, Nat.reduceSub, Int.reduceAdd, Int.reduceMul, Int.reduceSub, Int.reduceNeg, Int.reduceToNat, q7], by simp -implicitDefEqProofs (disch := first | omega | (simp only [St.set_n, St.up_n, List.length_cons, List.length_nil]; omega)) only [go_sem, Nat.reduceAdd, Nat.reduceMul, Nat.reduceSub, Int.reduceAdd, Int.reduceMul, Int.reduceSub, Int.reduceNeg, Int.reduceToNat], by simp -implicitDefEqProofs (disch := first | omega | (simp only [St.set_n, St.up_n, List.length_cons, List.length_nil]; omega)) only [go_sem, Nat.reduceAdd, Nat.reduceMul, Nat.reduceSub, Int.reduceAdd, Int.reduceMul, Int.reduceSub, Int.reduceNeg, Int.reduceToNat]; rfl⟩, by rw [clrTo_zero]; exact hF1⟩
          · clear q0 q3 q4 q5 q6 q7 hd
            rintro m e s2 hws2 ⟨c, hm', hc, ⟨⟨q3, q4, q5, q6, hd⟩, q0, q7, q8, q9⟩, hF2⟩
            have how := hF2.ow
            have hln := clrTo_len who t c
            rw [hln] at how
            have hcw := hF2.cw
            by_cases hlt : (c : Int) < who.length
            · obtain ⟨bw, cw, spw, rfl, hcc, mw, lw, _⟩ := how.has (by omega)
              obtain ⟨r, hr⟩ : ∃ r, who[c]? = some r := ⟨who[c]'(by omega), List.getElem?_eq_getElem (by omega)⟩
              have st1 := flat_set fR_len (clrTo who t c) spw c r (clr t r) t (.bool false) (clrTo_get hr) ht8 (fR_clr r ht8)
              rw [clrTo_set hr] at st1
              have ht8' : (t : Int) < 8 := by omega
              simp -implicitDefEqProofs (disch := first | omega | (simp only [St.set_n, St.up_n, List.length_cons, List.length_nil]; omega)) only [go_sem, Nat.reduceAdd, Nat.reduceMul, Nat.reduceSub, Int.reduceAdd, Int.reduceMul, Int.reduceSub, Int.reduceNeg, Int.reduceToNat, q4, q8, q9, hcw, hlt, mw, lw, ht8', st1]
              exact ⟨who.length - (c + 1), by omega, c + 1, rfl, by omega, ⟨⟨by simp -implicitDefEqProofs (disch := first | omega | (simp only [St.set_n, St.up_n, List.length_cons, List.length_nil]; omega)) only [go_sem, Nat.reduceAdd, Nat.reduceMul, Nat.reduceSub, Int.reduceAdd, Int.reduceMul, Int.reduceSub, Int.reduceNeg, Int.reduceToNat, q3], by simp -implicitDefEqProofs (disch := first | omega | (simp only [St.set_n, St.up_n, List.length_cons, List.length_nil]; omega)) only [go_sem, Nat.reduceAdd, Nat.reduceMul, Nat.reduceSub, Int.reduceAdd, Int.reduceMul, Int.reduceSub, Int.reduceNeg, Int.reduceToNat, q4], by simp -implicitDefEqProofs (disch := first | omega | (simp only [St.set_n, St.up_n, List.length_cons, List.length_nil]; omega)) only [go_sem, Nat.reduceAdd, Nat.reduceMul, Nat.reduceSub, Int.reduceAdd, Int.reduceMul, Int.reduceSub, Int.reduceNeg, Int.reduceToNat, q5], by simp -implicitDefEqProofs (disch := first | omega | (simp only [St.set_n, St.up_n, List.length_cons, List.length_nil]; omega)) only [go_sem, Nat.reduceAdd, Nat.reduceMul, Nat.reduceSub, Int.reduceAdd, Int.reduceMul, Int.reduceSub, Int.reduceNeg, Int.reduceToNat, q6], by simp -implicitDefEqProofs (disch := first | omega | (simp only [St.set_n, St.up_n, List.length_cons, List.length_nil]; omega)) only [go_sem, Nat.reduceAdd, Nat.reduceMul, Nat.reduceSub, Int.reduceAdd, Int.reduceMul, Int.reduceSub, Int.reduceNeg, Int.reduceToNat, hd]⟩, by simp -implicitDefEqProofs (disch := first | omega | (simp only [St.set_n, St.up_n, List.length_cons, List.length_nil]; omega)) only [go_sem, Nat.reduceAdd, Nat.reduceMul, Nat.reduceSub, Int.reduceAdd, Int.reduceMul, Int.reduceSub, Int.reduceNeg, Int.reduceToNat, q0], by simp -implicitDefEqProofs (disch := first | omega | (simp only [St.set_n, St.up_n, List.length_cons, List.length_nil]; omega)) only [go_sem, Nat.reduceAdd, Nat.reduceMul, Nat.reduceSub, Int.reduceAdd, Int.reduceMul, Int.reduceSub, Int.reduceNeg, Int.reduceToNat, q7], by simp -implicitDefEqProofs (disch := first | omega | (simp only [St.set_n, St.up_n, List.length_cons, List.length_nil]; omega)) only [go_sem, Nat.reduceAdd, Nat.reduceMul, Nat.reduceSub, Int.reduceAdd, Int.reduceMul, Int.reduceSub, Int.reduceNeg, Int.reduceToNat, q8], by simp -implicitDefEqProofs (disch := first | omega | (simp only [St.set_n, St.up_n, List.length_cons, List.length_nil]; omega)) only [go_sem, Nat.reduceAdd, Nat.reduceMul, Nat.reduceSub, Int.reduceAdd, Int.reduceMul, Int.reduceSub, Int.reduceNeg, Int.reduceToNat]; rfl⟩, hF2.who' hln (clrTo_len _ _ _) hcc (by rw [← st1, List.length_set]; exact lw)⟩
            · obtain ⟨Aw, cw, rfl, _⟩ := how.is
              simp -implicitDefEqProofs (disch := first | omega | (simp only [St.set_n, St.up_n, List.length_cons, List.length_nil]; omega)) only [go_sem, Nat.reduceAdd, Nat.reduceMul, Nat.reduceSub, Int.reduceAdd, Int.reduceMul, Int.reduceSub, Int.reduceNeg, Int.reduceToNat, q4, q9, hcw, hlt]
              have hce : c = who.length := by omega
              subst hce
              rw [clrTo_all] at hF2
              exact ⟨_, To.refl _ _, ⟨by simp -implicitDefEqProofs (disch := first | omega | (simp only [St.set_n, St.up_n, List.length_cons, List.length_nil]; omega)) only [go_sem, Nat.reduceAdd, Nat.reduceMul, Nat.reduceSub, Int.reduceAdd, Int.reduceMul, Int.reduceSub, Int.reduceNeg, Int.reduceToNat, q3], by simp -implicitDefEqProofs (disch := first | omega | (simp only [St.set_n, St.up_n, List.length_cons, List.length_nil]; omega)) only [go_sem, Nat.reduceAdd, Nat.reduceMul, Nat.reduceSub, Int.reduceAdd, Int.reduceMul, Int.reduceSub, Int.reduceNeg, Int.reduceToNat, q4], by simp -implicitDefEqProofs (disch := first | omega | (simp only [St.set_n, St.up_n, List.length_cons, List.length_nil]; omega)) only [go_sem, Nat.reduceAdd, Nat.reduceMul, Nat.reduceSub, Int.reduceAdd, Int.reduceMul, Int.reduceSub, Int.reduceNeg, Int.reduceToNat, q5], by simp -implicitDefEqProofs (disch := first | omega | (simp only [St.set_n, St.up_n, List.length_cons, List.length_nil]; omega)) only [go_sem, Nat.reduceAdd, Nat.reduceMul, Nat.reduceSub, Int.reduceAdd, Int.reduceMul, Int.reduceSub, Int.reduceNeg, Int.reduceToNat, q6], by simp -implicitDefEqProofs (disch := first | omega | (simp only [St.set_n, St.up_n, List.length_cons, List.length_nil]; omega)) only [go_sem, Nat.reduceAdd, Nat.reduceMul, Nat.reduceSub, Int.reduceAdd, Int.reduceMul, Int.reduceSub, Int.reduceNeg, Int.reduceToNat, hd]⟩, by simp -implicitDefEqProofs (disch := first | omega | (simp only [St.set_n, St.up_n, List.length_cons, List.length_nil]; omega)) only [go_sem, Nat.reduceAdd, Nat.reduceMul, Nat.reduceSub, Int.reduceAdd, Int.reduceMul, Int.reduceSub, Int.reduceNeg, Int.reduceToNat, q0], by simp -implicitDefEqProofs (disch := first | omega | (simp only [St.set_n, St.up_n, List.length_cons, List.length_nil]; omega)) only [go_sem, Nat.reduceAdd, Nat.reduceMul, Nat.reduceSub, Int.reduceAdd, Int.reduceMul, Int.reduceSub, Int.reduceNeg, Int.reduceToNat, q7], S', Z, who.map (clr t), told, _, tv, hF2, hSe', by simp; omega, by omega, by omega⟩
        by_cases hk2 : kd = 2
        · subst hk2
          refine SemS.wp fun _ => ?_
          simp -implicitDefEqProofs (disch := first | omega | (simp only [St.set_n, St.up_n, List.length_cons, List.length_nil]; omega)) only [go_sem, Nat.reduceAdd, Nat.reduceMul, Nat.reduceSub, Int.reduceAdd, Int.reduceMul, Int.reduceSub, Int.reduceNeg, Int.reduceToNat, q3]
          have hnb := hF.fresh hws
          have hFn := hF.keep (τ := (s.set s.n (.raw (.cells (fR (rowTo S.pin 0)).toArray 29 (0, 0)))).up (s.n + 1)) hnb (fun c x hc hx => by have := (hws.2 _ _ hx).2; simp -implicitDefEqProofs (disch := first | omega | (simp only [St.set_n, St.up_n, List.length_cons, List.length_nil]; omega)) only [go_sem, Nat.reduceAdd, Nat.reduceMul, Nat.reduceSub, Int.reduceAdd, Int.reduceMul, Int.reduceSub, Int.reduceNeg, Int.reduceToNat, hx]) (by simp only [St.up_n]; omega)
          have hrow : ((s.set s.n (.raw (.cells (fR (rowTo S.pin 0)).toArray 29 (0, 0)))).up (s.n + 1)).m s.n = some (.raw (.cells (fR (rowTo S.pin 0)).toArray 29 (0, 0))) := by simp -implicitDefEqProofs (disch := first | omega | (simp only [St.set_n, St.up_n, List.length_cons, List.length_nil]; omega)) only [go_sem, Nat.reduceAdd, Nat.reduceMul, Nat.reduceSub, Int.reduceAdd, Int.reduceMul, Int.reduceSub, Int.reduceNeg, Int.reduceToNat]
          have h0 : (#[.bool false, .bool false, .bool false, .bool false, .bool false, .bool false, .bool false, .bool false] : Array Value) = (fR (rowTo S.pin 0)).toArray := by simp [fR, rowTo]
          rw [h0]
          generalize (s.set s.n (.raw (.cells (fR (rowTo S.pin 0)).toArray 29 (0, 0)))).up (s.n + 1) = s1 at hFn hrow ⊢
          generalize s.n = nb at hnb hFn hrow ⊢
          refine loop_rule (fun m e s2 => ∃ c : Nat, m = 8 - c ∧ c ≤ 8 ∧ Mr (some ⟨b, o, none⟩) l.length cap k k1 (k1 + 1 + 1) i nb c e ∧ Sm σ k k1 (k1 + 1 + 1) S Z who told wv tv s2 ∧ s2.m nb = some (.raw (.cells (fR (rowTo S.pin c)).toArray 29 (0, 0)))) 8 ?_ ?_
          · exact ⟨0, by omega, by omega, ⟨⟨by simp -implicitDefEqProofs (disch := first | omega | (simp only [St.set_n, St.up_n, List.length_cons, List.length_nil]; omega)) only [go_sem, Nat.reduceAdd, Nat.reduceMul, Nat.reduceSub, Int.reduceAdd, Int.reduceMul, Int.reduceSub, Int.reduceNeg, Int.reduceToNat, q3], by simp -implicitDefEqProofs (disch := first | omega | (simp only [St.set_n, St.up_n, List.length_cons, List.length_nil]; omega)) only [go_sem, Nat.reduceAdd, Nat.reduceMul, Nat.reduceSub, Int.reduceAdd, Int.reduceMul, Int.reduceSub, Int.reduceNeg, Int.reduceToNat, q4], by simp -implicitDefEqProofs (disch := first | omega | (simp only [St.set_n, St.up_n, List.length_cons, List.length_nil]; omega)) only [go_sem, Nat.reduceAdd, Nat.reduceMul, Nat.reduceSub, Int.reduceAdd, Int.reduceMul, Int.reduceSub, Int.reduceNeg, Int.reduceToNat, q5], by simp -implicitDefEqProofs (disch := first | omega | (simp only [St.set_n, St.up_n, List.length_cons, List.length_nil]; omega)) only [go_sem, Nat.reduceAdd, Nat.reduceMul, Nat.reduceSub, Int.reduceAdd, Int.reduceMul, Int.reduceSub, Int.reduceNeg, Int.reduceToNat, q6], by simp -implicitDefEqProofs (disch := first | omega | (simp only [St.set_n, St.up_n, List.length_cons, List.length_nil]; omega)) only [go_sem, Nat.reduceAdd, Nat.reduceMul, Nat.reduceSub, Int.reduceAdd, Int.reduceMul, Int.reduceSub, Int.reduceNeg, Int.reduceToNat, hd]⟩, by simp -implicitDefEqProofs (disch := first | omega | (simp only [St.set_n, St.up_n, List.length_cons, List.length_nil]; omega)) only [go_sem, Nat.reduceAdd, Nat.reduceMul, Nat.reduceSub, Int.reduceAdd, Int.reduceMul, Int.reduceSub, Int.reduceNeg, Int.reduceToNat, q0], by simp -implicitDefEqProofs (disch := first | omega | (simp only [St.set_n, St.up_n, List.length_cons, List.length_nil]; omega)) only [go_sem, Nat.reduceAdd, Nat.reduceMul, Nat.reduceSub, Int.reduceAdd, Int.reduceMul, Int.reduceSub, Int.reduceNeg, Int.reduceToNat, q7], by simp -implicitDefEqProofs (disch := first | omega | (simp only [St.set_n, St.up_n, List.length_cons, List.length_nil]; omega)) only [go_sem, Nat.reduceAdd, Nat.reduceMul, Nat.reduceSub, Int.reduceAdd, Int.reduceMul, Int.reduceSub, Int.reduceNeg, Int.reduceToNat], by simp -implicitDefEqProofs (disch := first | omega | (simp only [St.set_n, St.up_n, List.length_cons, List.length_nil]; omega)) only [go_sem, Nat.reduceAdd, Nat.reduceMul, Nat.reduceSub, Int.reduceAdd, Int.reduceMul, Int.reduceSub, Int.reduceNeg, Int.reduceToNat]; rfl⟩, hFn, hrow⟩
          · clear q0 q3 q4 q5 q6 q7 hd hFn hrow
            rintro m e s2 hws2 ⟨c, hm', hc, ⟨⟨q3, q4, q5, q6, hd⟩, q0, q7, q10, q11⟩, hF2, hrow⟩
            by_cases hlt : (c : Int) < 8
            · simp -implicitDefEqProofs (disch := first | omega | (simp only [St.set_n, St.up_n, List.length_cons, List.length_nil]; omega)) only [go_sem, Nat.reduceAdd, Nat.reduceMul, Nat.reduceSub, Int.reduceAdd, Int.reduceMul, Int.reduceSub, Int.reduceNeg, Int.reduceToNat, q3, q10, q11, hlt]
              refine callF_of (ep_pinned hF2.ep fun k4 hk4 => ?_)
              have hset := rowTo_set S.pin (c := c) (by omega)
              have hl8 : (fR (rowTo S.pin c)).length = 8 := rfl
              simp -implicitDefEqProofs (disch := first | omega | (simp only [St.set_n, St.up_n, List.length_cons, List.length_nil]; omega)) only [go_sem, Nat.reduceAdd, Nat.reduceMul, Nat.reduceSub, Int.reduceAdd, Int.reduceMul, Int.reduceSub, Int.reduceNeg, Int.reduceToNat, q10, q11, hrow, hlt, hset, hl8]
              exact ⟨8 - (c + 1), by omega, c + 1, rfl, by omega, ⟨⟨by simp -implicitDefEqProofs (disch := first | omega | (simp only [St.set_n, St.up_n, List.length_cons, List.length_nil]; omega)) only [go_sem, Nat.reduceAdd, Nat.reduceMul, Nat.reduceSub, Int.reduceAdd, Int.reduceMul, Int.reduceSub, Int.reduceNeg, Int.reduceToNat, q3], by simp -implicitDefEqProofs (disch := first | omega | (simp only [St.set_n, St.up_n, List.length_cons, List.length_nil]; omega)) only [go_sem, Nat.reduceAdd, Nat.reduceMul, Nat.reduceSub, Int.reduceAdd, Int.reduceMul, Int.reduceSub, Int.reduceNeg, Int.reduceToNat, q4], by simp -implicitDefEqProofs (disch := first | omega | (simp only [St.set_n, St.up_n, List.length_cons, List.length_nil]; omega)) only [go_sem, Nat.reduceAdd, Nat.reduceMul, Nat.reduceSub, Int.reduceAdd, Int.reduceMul, Int.reduceSub, Int.reduceNeg, Int.reduceToNat, q5], by simp -implicitDefEqProofs (disch := first | omega | (simp only [St.set_n, St.up_n, List.length_cons, List.length_nil]; omega)) only [go_sem, Nat.reduceAdd, Nat.reduceMul, Nat.reduceSub, Int.reduceAdd, Int.reduceMul, Int.reduceSub, Int.reduceNeg, Int.reduceToNat, q6], by simp -implicitDefEqProofs (disch := first | omega | (simp only [St.set_n, St.up_n, List.length_cons, List.length_nil]; omega)) only [go_sem, Nat.reduceAdd, Nat.reduceMul, Nat.reduceSub, Int.reduceAdd, Int.reduceMul, Int.reduceSub, Int.reduceNeg, Int.reduceToNat, hd]⟩, by simp -implicitDefEqProofs (disch := first | omega | (simp only [St.set_n, St.up_n, List.length_cons, List.length_nil]; omega)) only [go_sem, Nat.reduceAdd, Nat.reduceMul, Nat.reduceSub, Int.reduceAdd, Int.reduceMul, Int.reduceSub, Int.reduceNeg, Int.reduceToNat, q0], by simp -implicitDefEqProofs (disch := first | omega | (simp only [St.set_n, St.up_n, List.length_cons, List.length_nil]; omega)) only [go_sem, Nat.reduceAdd, Nat.reduceMul, Nat.reduceSub, Int.reduceAdd, Int.reduceMul, Int.reduceSub, Int.reduceNeg, Int.reduceToNat, q7], by simp -implicitDefEqProofs (disch := first | omega | (simp only [St.set_n, St.up_n, List.length_cons, List.length_nil]; omega)) only [go_sem, Nat.reduceAdd, Nat.reduceMul, Nat.reduceSub, Int.reduceAdd, Int.reduceMul, Int.reduceSub, Int.reduceNeg, Int.reduceToNat, q10], by simp -implicitDefEqProofs (disch := first | omega | (simp only [St.set_n, St.up_n, List.length_cons, List.length_nil]; omega)) only [go_sem, Nat.reduceAdd, Nat.reduceMul, Nat.reduceSub, Int.reduceAdd, Int.reduceMul, Int.reduceSub, Int.reduceNeg, Int.reduceToNat]; rfl⟩, hF2.keep hnb (fun d x hd' hx => by simp -implicitDefEqProofs (disch := first | omega | (simp only [St.set_n, St.up_n, List.length_cons, List.length_nil]; omega)) only [go_sem, Nat.reduceAdd, Nat.reduceMul, Nat.reduceSub, Int.reduceAdd, Int.reduceMul, Int.reduceSub, Int.reduceNeg, Int.reduceToNat, hx]) (by simp only [St.up_n, St.set_n]; omega), by simp -implicitDefEqProofs (disch := first | omega | (simp only [St.set_n, St.up_n, List.length_cons, List.length_nil]; omega)) only [go_sem, Nat.reduceAdd, Nat.reduceMul, Nat.reduceSub, Int.reduceAdd, Int.reduceMul, Int.reduceSub, Int.reduceNeg, Int.reduceToNat]⟩
            · have hc8 : c = 8 := by omega
              subst hc8
              have hcw := hF2.cw
              have hll := lim_sum Z
              obtain ⟨Aw, cw, rfl, _⟩ := hF2.ow.is
              simp -implicitDefEqProofs (disch := first | omega | (simp only [St.set_n, St.up_n, List.length_cons, List.length_nil]; omega)) only [go_sem, Nat.reduceAdd, Nat.reduceMul, Nat.reduceSub, Int.reduceAdd, Int.reduceMul, Int.reduceSub, Int.reduceNeg, Int.reduceToNat, q3, q4, q10, q11, hlt, hcw]
              refine callF_wf (ep_retire hF2.ep (by omega) (by rw [hF2.sf.lk.e0]; omega) (by rw [hF2.sf.lk.e1]; omega) (by rw [hF2.sf.lk.e2]; omega) fun k4 hk4 hw4 => ?_)
              have hnk := hnb.nq
              have hnw := hnb.nw
              have hq4 := hq1.2.2.2.1
              have hrow' : s2.m nb = some (.raw (.cells #[.bool (rowTo S.pin 8 0), .bool (rowTo S.pin 8 1), .bool (rowTo S.pin 8 2), .bool (rowTo S.pin 8 3), .bool (rowTo S.pin 8 4), .bool (rowTo S.pin 8 5), .bool (rowTo S.pin 8 6), .bool (rowTo S.pin 8 7)] 29 (0, 0))) := hrow
              simp -implicitDefEqProofs (disch := first | omega | (simp only [St.set_n, St.up_n, List.length_cons, List.length_nil]; omega)) only [go_sem, Nat.reduceAdd, Nat.reduceMul, Nat.reduceSub, Int.reduceAdd, Int.reduceMul, Int.reduceSub, Int.reduceNeg, Int.reduceToNat, q4, q10, hcw, hrow']
              have hk3 : ∀ c x, c ≠ k → s2.m c = some x → ((s2.set k (.comp (EpR (S.put (S.now % 3) (S.get (S.now % 3) ++ [(who.length : Int)])) k))).up k4).m c = some x := fun c x hc hx => by simp -implicitDefEqProofs (disch := first | omega | (simp only [St.set_n, St.up_n, List.length_cons, List.length_nil]; omega)) only [go_sem, Nat.reduceAdd, Nat.reduceMul, Nat.reduceSub, Int.reduceAdd, Int.reduceMul, Int.reduceSub, Int.reduceNeg, Int.reduceToNat, hx]
              have hep3 : ((s2.set k (.comp (EpR (S.put (S.now % 3) (S.get (S.now % 3) ++ [(who.length : Int)])) k))).up k4).m k = some (.comp (EpR (S.put (S.now % 3) (S.get (S.now % 3) ++ [(who.length : Int)])) k)) := by simp -implicitDefEqProofs (disch := first | omega | (simp only [St.set_n, St.up_n, List.length_cons, List.length_nil]; omega)) only [go_sem, Nat.reduceAdd, Nat.reduceMul, Nat.reduceSub, Int.reduceAdd, Int.reduceMul, Int.reduceSub, Int.reduceNeg, Int.reduceToNat]
              have hn3 : s2.n ≤ ((s2.set k (.comp (EpR (S.put (S.now % 3) (S.get (S.now % 3) ++ [(who.length : Int)])) k))).up k4).n := by simp only [St.up_n, St.set_n]; omega
              have ow3 := hF2.ow.keepR fun b o hb ho => hk3 _ _ (hF2.nw b hb).2.1 ho
              have ot3 := hF2.ot.keepR fun b o hb ho => hk3 _ _ (hF2.nt b hb).2.1 ho
              refine appF_one (s := (s2.set k (.comp (EpR (S.put (S.now % 3) (S.get (S.now % 3) ++ [(who.length : Int)])) k))).up k4) (sz := 8) (bts := 8) (cs := flat fR who) (ys := fR (rowTo S.pin 8)) hw4 ow3 se26 kd26 zr29 rfl (by omega) rfl rfl (by omega) fun A' C' t1 hC' o1 hw1 hk1' hm1 hb1 hn1 => ?_
              obtain ⟨p1, p2, p3, p4, p5, p6, p7⟩ := hF2.q1
              have hcw1 := hm1 k1 _ (hk3 k1 _ (by omega) hcw) (fun e => (hF2.nw k1 e).2.2.1 rfl)
              simp -implicitDefEqProofs (disch := first | omega | (simp only [St.set_n, St.up_n, List.length_cons, List.length_nil]; omega)) only [go_sem, Nat.reduceAdd, Nat.reduceMul, Nat.reduceSub, Int.reduceAdd, Int.reduceMul, Int.reduceSub, Int.reduceNeg, Int.reduceToNat, q4, hcw1]
              obtain ⟨ot1, dwt1⟩ := hk1' _ _ _ _ _ ot3 hF2.dwt
              have hnw1 : ∀ b, blk (.slice A' (who.length + 1) C') = some b → σ.n ≤ b ∧ b ≠ k ∧ b ≠ k1 ∧ b ≠ k1 + 1 + 1 := fun b hb => by
                rcases hb1 b hb with h' | h'
                · have a1 := (hws2.2 _ _ hF2.cw).2
                  have a2 := (hws2.2 _ _ hF2.cd).2
                  simp only [St.up_n] at h'
                  omega
                · exact hF2.nw b h'
              have hkeep : ∀ c x, c ≠ k → c ≠ k1 → blk (.slice Aw who.length cw) ≠ some c → s2.m c = some x → (t1.set k1 (.raw (.cells #[.slice A' (who.length + 1) C'] 26 (0, 0)))).m c = some x := fun c x h1 h2 h3 hx => by
                rw [St.set_m_ne _ _ h2]; exact hm1 c x (hk3 c x h1 hx) h3
              have hl1 : (who ++ [rowTo S.pin 8]).length = who.length + 1 := by simp
              have hf1 : flat fR (who ++ [rowTo S.pin 8]) = flat fR who ++ fR (rowTo S.pin 8) := by rw [flat_append]; simp [flat]
              refine ⟨_, To.refl _ _, ⟨by simp -implicitDefEqProofs (disch := first | omega | (simp only [St.set_n, St.up_n, List.length_cons, List.length_nil]; omega)) only [go_sem, Nat.reduceAdd, Nat.reduceMul, Nat.reduceSub, Int.reduceAdd, Int.reduceMul, Int.reduceSub, Int.reduceNeg, Int.reduceToNat, q3], by simp -implicitDefEqProofs (disch := first | omega | (simp only [St.set_n, St.up_n, List.length_cons, List.length_nil]; omega)) only [go_sem, Nat.reduceAdd, Nat.reduceMul, Nat.reduceSub, Int.reduceAdd, Int.reduceMul, Int.reduceSub, Int.reduceNeg, Int.reduceToNat, q4], by simp -implicitDefEqProofs (disch := first | omega | (simp only [St.set_n, St.up_n, List.length_cons, List.length_nil]; omega)) only [go_sem, Nat.reduceAdd, Nat.reduceMul, Nat.reduceSub, Int.reduceAdd, Int.reduceMul, Int.reduceSub, Int.reduceNeg, Int.reduceToNat, q5], by simp -implicitDefEqProofs (disch := first | omega | (simp only [St.set_n, St.up_n, List.length_cons, List.length_nil]; omega)) only [go_sem, Nat.reduceAdd, Nat.reduceMul, Nat.reduceSub, Int.reduceAdd, Int.reduceMul, Int.reduceSub, Int.reduceNeg, Int.reduceToNat, q6], by simp -implicitDefEqProofs (disch := first | omega | (simp only [St.set_n, St.up_n, List.length_cons, List.length_nil]; omega)) only [go_sem, Nat.reduceAdd, Nat.reduceMul, Nat.reduceSub, Int.reduceAdd, Int.reduceMul, Int.reduceSub, Int.reduceNeg, Int.reduceToNat, hd]⟩, by simp -implicitDefEqProofs (disch := first | omega | (simp only [St.set_n, St.up_n, List.length_cons, List.length_nil]; omega)) only [go_sem, Nat.reduceAdd, Nat.reduceMul, Nat.reduceSub, Int.reduceAdd, Int.reduceMul, Int.reduceSub, Int.reduceNeg, Int.reduceToNat, q0], by simp -implicitDefEqProofs (disch := first | omega | (simp only [St.set_n, St.up_n, List.length_cons, List.length_nil]; omega)) only [go_sem, Nat.reduceAdd, Nat.reduceMul, Nat.reduceSub, Int.reduceAdd, Int.reduceMul, Int.reduceSub, Int.reduceNeg, Int.reduceToNat, q7], S.put (S.now % 3) (S.get (S.now % 3) ++ [(who.length : Int)]), Z ++ [((who.length : Int), (S.now : Int))], who ++ [rowTo S.pin 8], told, .slice A' (who.length + 1) C', tv, ⟨?_, ?_, by simp -implicitDefEqProofs (disch := first | omega | (simp only [St.set_n, St.up_n, List.length_cons, List.length_nil]; omega)) only [go_sem, Nat.reduceAdd, Nat.reduceMul, Nat.reduceSub, Int.reduceAdd, Int.reduceMul, Int.reduceSub, Int.reduceNeg, Int.reduceToNat], ?_, ?_, ?_, dwt1, hnw1, hF2.nt, ⟨p1, p2, p3, p4, p5, p6, ?_⟩, fun c x hc hx => ?_⟩, hS.retire hF2.sf (fun t ht => by simp [rowTo, ht]), by rw [hl1]; omega, by rw [put_now]; omega, by simp; omega⟩
              · rw [St.set_m_ne _ _ p4]; exact hm1 k _ hep3 fun e => (hF2.nw k e).2.1 rfl
              · rw [hl1]; exact hF2.sf.retire (by omega)
              · exact hkeep _ _ (Ne.symm p5) (Ne.symm p6) (fun e => (hF2.nw _ e).2.2.2 rfl) hF2.cd
              · rw [hl1, hf1]
                refine o1.keepR fun b o hb ho => ?_
                rw [St.set_m_ne _ _ (hnw1 b hb).2.2.1]; exact ho
              · refine ot1.keepR fun b o hb ho => ?_
                rw [St.set_m_ne _ _ (hF2.nt b hb).2.2.1]; exact ho
              · simp only [St.up_n] at hn1
                show k < t1.n
                omega
              · exact hkeep c x (by omega) (by omega) (fun e => by have := (hF2.nw c e).1; omega) (hF2.old c x hc hx)
        by_cases hk3 : kd = 3
        · subst hk3
          refine SemS.wp fun _ => ?_
          simp -implicitDefEqProofs (disch := first | omega | (simp only [St.set_n, St.up_n, List.length_cons, List.length_nil]; omega)) only [go_sem, Nat.reduceAdd, Nat.reduceMul, Nat.reduceSub, Int.reduceAdd, Int.reduceMul, Int.reduceSub, Int.reduceNeg, Int.reduceToNat, q3]
          have hll := lim_sum Z
          have hpn := hF.sf.pn
          have hn1 := hF.nt
          cases ha : S.pin.any (late S.now) with
          | true =>
            refine callF_of (ep_advance_no hep (by omega) ha fun k2 hk2 => ?_)
            simp -implicitDefEqProofs (disch := first | omega | (simp only [St.set_n, St.up_n, List.length_cons, List.length_nil]; omega)) only [go_sem, Nat.reduceAdd, Nat.reduceMul, Nat.reduceSub, Int.reduceAdd, Int.reduceMul, Int.reduceSub, Int.reduceNeg, Int.reduceToNat, q6]
            have hup : ∀ c x, s.m c = some x → (s.up k2).m c = some x := fun c x hx => by simp -implicitDefEqProofs (disch := first | omega | (simp only [St.set_n, St.up_n, List.length_cons, List.length_nil]; omega)) only [go_sem, Nat.reduceAdd, Nat.reduceMul, Nat.reduceSub, Int.reduceAdd, Int.reduceMul, Int.reduceSub, Int.reduceNeg, Int.reduceToNat, hx]
            refine callF_of (tell (a := []) ⟨fun x hx => (by cases hx), List.nodup_nil⟩ (by simp) (hup _ _ hF.cw) (hup _ _ hF.cd) Own.nil (hF.ow.keepR fun b o _ ho => hup _ _ ho) (hF.ot.keepR fun b o _ ho => hup _ _ ho) (fun b hb => (by cases hb)) hF.dwt (fun e => (hF.nt _ e).2.2.1 rfl) (fun e => (hF.nt _ e).2.2.2 rfl) fun τ hT => ?_)
            simp -implicitDefEqProofs (disch := first | omega | (simp only [St.set_n, St.up_n, List.length_cons, List.length_nil]; omega)) only [go_sem, Nat.reduceAdd, Nat.reduceMul, Nat.reduceSub, Int.reduceAdd, Int.reduceMul, Int.reduceSub, Int.reduceNeg, Int.reduceToNat]
            exact ⟨_, To.refl _ _, ⟨by simp -implicitDefEqProofs (disch := first | omega | (simp only [St.set_n, St.up_n, List.length_cons, List.length_nil]; omega)) only [go_sem, Nat.reduceAdd, Nat.reduceMul, Nat.reduceSub, Int.reduceAdd, Int.reduceMul, Int.reduceSub, Int.reduceNeg, Int.reduceToNat, q3], by simp -implicitDefEqProofs (disch := first | omega | (simp only [St.set_n, St.up_n, List.length_cons, List.length_nil]; omega)) only [go_sem, Nat.reduceAdd, Nat.reduceMul, Nat.reduceSub, Int.reduceAdd, Int.reduceMul, Int.reduceSub, Int.reduceNeg, Int.reduceToNat, q4], by simp -implicitDefEqProofs (disch := first | omega | (simp only [St.set_n, St.up_n, List.length_cons, List.length_nil]; omega)) only [go_sem, Nat.reduceAdd, Nat.reduceMul, Nat.reduceSub, Int.reduceAdd, Int.reduceMul, Int.reduceSub, Int.reduceNeg, Int.reduceToNat, q5], by simp -implicitDefEqProofs (disch := first | omega | (simp only [St.set_n, St.up_n, List.length_cons, List.length_nil]; omega)) only [go_sem, Nat.reduceAdd, Nat.reduceMul, Nat.reduceSub, Int.reduceAdd, Int.reduceMul, Int.reduceSub, Int.reduceNeg, Int.reduceToNat, q6], by simp -implicitDefEqProofs (disch := first | omega | (simp only [St.set_n, St.up_n, List.length_cons, List.length_nil]; omega)) only [go_sem, Nat.reduceAdd, Nat.reduceMul, Nat.reduceSub, Int.reduceAdd, Int.reduceMul, Int.reduceSub, Int.reduceNeg, Int.reduceToNat, hd]⟩, by simp -implicitDefEqProofs (disch := first | omega | (simp only [St.set_n, St.up_n, List.length_cons, List.length_nil]; omega)) only [go_sem, Nat.reduceAdd, Nat.reduceMul, Nat.reduceSub, Int.reduceAdd, Int.reduceMul, Int.reduceSub, Int.reduceNeg, Int.reduceToNat, q0], by simp -implicitDefEqProofs (disch := first | omega | (simp only [St.set_n, St.up_n, List.length_cons, List.length_nil]; omega)) only [go_sem, Nat.reduceAdd, Nat.reduceMul, Nat.reduceSub, Int.reduceAdd, Int.reduceMul, Int.reduceSub, Int.reduceNeg, Int.reduceToNat, q7], S, Z, who, told, wv, tv, hF.told (hup _ _ hep) (fun c x _ hx => hup c x hx) hk2 hT hF.sf, hS, by omega, by omega, by omega⟩
          | false =>
            refine callF_wf (ep_advance hep (by omega) (by omega) ha fun v s1 ov hq hkq hvq hn1 hb1 hw1 => ?_)
            simp -implicitDefEqProofs (disch := first | omega | (simp only [St.set_n, St.up_n, List.length_cons, List.length_nil]; omega)) only [go_sem, Nat.reduceAdd, Nat.reduceMul, Nat.reduceSub, Int.reduceAdd, Int.reduceMul, Int.reduceSub, Int.reduceNeg, Int.reduceToNat, q6]
            have hgl := gone_lim hF.sf.lk
            have hgn := gone_len ((S.now : Int) + 1) Z
            have hsn := stay_len ((S.now : Int) + 1) Z
            have hTl := hF.sf.tells hS ha
            rw [hgl] at hgn hTl
            have hk1' : ∀ c x, c ≠ k → s.m c = some x → s1.m c = some x := fun c x hc hx => (hkq c x hc hx).1
            have hoff : ∀ c x, c ≠ k → s.m c = some x → blk v ≠ some c := fun c x hc hx => (hkq c x hc hx).2
            obtain ⟨p1, p2, p3, p4, p5, p6, p7⟩ := hF.q1
            refine callF_of (tell hTl (by omega) (hk1' _ _ (Ne.symm p4) hF.cw) (hk1' _ _ (Ne.symm p5) hF.cd) ov (hF.ow.keepR fun b o hb ho => hk1' _ _ (hF.nw b hb).2.1 ho) (hF.ot.keepR fun b o hb ho => hk1' _ _ (hF.nt b hb).2.1 ho) (fun b hb e => ?_) hF.dwt (fun e => (hF.nt _ e).2.2.1 rfl) (fun e => (hF.nt _ e).2.2.2 rfl) fun τ hT => ?_)
            · obtain ⟨o, ho⟩ := hF.ot.at_ e
              exact hoff b _ (hF.nt b e).2.1 ho hb
            simp -implicitDefEqProofs (disch := first | omega | (simp only [St.set_n, St.up_n, List.length_cons, List.length_nil]; omega)) only [go_sem, Nat.reduceAdd, Nat.reduceMul, Nat.reduceSub, Int.reduceAdd, Int.reduceMul, Int.reduceSub, Int.reduceNeg, Int.reduceToNat]
            rw [← hgl] at hT
            exact ⟨_, To.refl _ _, ⟨by simp -implicitDefEqProofs (disch := first | omega | (simp only [St.set_n, St.up_n, List.length_cons, List.length_nil]; omega)) only [go_sem, Nat.reduceAdd, Nat.reduceMul, Nat.reduceSub, Int.reduceAdd, Int.reduceMul, Int.reduceSub, Int.reduceNeg, Int.reduceToNat, q3], by simp -implicitDefEqProofs (disch := first | omega | (simp only [St.set_n, St.up_n, List.length_cons, List.length_nil]; omega)) only [go_sem, Nat.reduceAdd, Nat.reduceMul, Nat.reduceSub, Int.reduceAdd, Int.reduceMul, Int.reduceSub, Int.reduceNeg, Int.reduceToNat, q4], by simp -implicitDefEqProofs (disch := first | omega | (simp only [St.set_n, St.up_n, List.length_cons, List.length_nil]; omega)) only [go_sem, Nat.reduceAdd, Nat.reduceMul, Nat.reduceSub, Int.reduceAdd, Int.reduceMul, Int.reduceSub, Int.reduceNeg, Int.reduceToNat, q5], by simp -implicitDefEqProofs (disch := first | omega | (simp only [St.set_n, St.up_n, List.length_cons, List.length_nil]; omega)) only [go_sem, Nat.reduceAdd, Nat.reduceMul, Nat.reduceSub, Int.reduceAdd, Int.reduceMul, Int.reduceSub, Int.reduceNeg, Int.reduceToNat, q6], by simp -implicitDefEqProofs (disch := first | omega | (simp only [St.set_n, St.up_n, List.length_cons, List.length_nil]; omega)) only [go_sem, Nat.reduceAdd, Nat.reduceMul, Nat.reduceSub, Int.reduceAdd, Int.reduceMul, Int.reduceSub, Int.reduceNeg, Int.reduceToNat, hd]⟩, by simp -implicitDefEqProofs (disch := first | omega | (simp only [St.set_n, St.up_n, List.length_cons, List.length_nil]; omega)) only [go_sem, Nat.reduceAdd, Nat.reduceMul, Nat.reduceSub, Int.reduceAdd, Int.reduceMul, Int.reduceSub, Int.reduceNeg, Int.reduceToNat, q0], by simp -implicitDefEqProofs (disch := first | omega | (simp only [St.set_n, St.up_n, List.length_cons, List.length_nil]; omega)) only [go_sem, Nat.reduceAdd, Nat.reduceMul, Nat.reduceSub, Int.reduceAdd, Int.reduceMul, Int.reduceSub, Int.reduceNeg, Int.reduceToNat, q7], _, _, who, _, wv, tv, hF.told hq hk1' hn1 hT (hF.sf.advance ha), hS.advance, by omega, by rw [put_now]; simp only; omega, by omega⟩
        · refine SemS.wp fun _ => ?_
          simp -implicitDefEqProofs (disch := first | omega | (simp only [St.set_n, St.up_n, List.length_cons, List.length_nil]; omega)) only [go_sem, Nat.reduceAdd, Nat.reduceMul, Nat.reduceSub, Int.reduceAdd, Int.reduceMul, Int.reduceSub, Int.reduceNeg, Int.reduceToNat, hk0, hk1, hk2, hk3]
          exact ⟨_, To.refl _ _, ⟨by simp -implicitDefEqProofs (disch := first | omega | (simp only [St.set_n, St.up_n, List.length_cons, List.length_nil]; omega)) only [go_sem, Nat.reduceAdd, Nat.reduceMul, Nat.reduceSub, Int.reduceAdd, Int.reduceMul, Int.reduceSub, Int.reduceNeg, Int.reduceToNat, q3], by simp -implicitDefEqProofs (disch := first | omega | (simp only [St.set_n, St.up_n, List.length_cons, List.length_nil]; omega)) only [go_sem, Nat.reduceAdd, Nat.reduceMul, Nat.reduceSub, Int.reduceAdd, Int.reduceMul, Int.reduceSub, Int.reduceNeg, Int.reduceToNat, q4], by simp -implicitDefEqProofs (disch := first | omega | (simp only [St.set_n, St.up_n, List.length_cons, List.length_nil]; omega)) only [go_sem, Nat.reduceAdd, Nat.reduceMul, Nat.reduceSub, Int.reduceAdd, Int.reduceMul, Int.reduceSub, Int.reduceNeg, Int.reduceToNat, q5], by simp -implicitDefEqProofs (disch := first | omega | (simp only [St.set_n, St.up_n, List.length_cons, List.length_nil]; omega)) only [go_sem, Nat.reduceAdd, Nat.reduceMul, Nat.reduceSub, Int.reduceAdd, Int.reduceMul, Int.reduceSub, Int.reduceNeg, Int.reduceToNat, q6], by simp -implicitDefEqProofs (disch := first | omega | (simp only [St.set_n, St.up_n, List.length_cons, List.length_nil]; omega)) only [go_sem, Nat.reduceAdd, Nat.reduceMul, Nat.reduceSub, Int.reduceAdd, Int.reduceMul, Int.reduceSub, Int.reduceNeg, Int.reduceToNat, hd]⟩, by simp -implicitDefEqProofs (disch := first | omega | (simp only [St.set_n, St.up_n, List.length_cons, List.length_nil]; omega)) only [go_sem, Nat.reduceAdd, Nat.reduceMul, Nat.reduceSub, Int.reduceAdd, Int.reduceMul, Int.reduceSub, Int.reduceNeg, Int.reduceToNat, q0], by simp -implicitDefEqProofs (disch := first | omega | (simp only [St.set_n, St.up_n, List.length_cons, List.length_nil]; omega)) only [go_sem, Nat.reduceAdd, Nat.reduceMul, Nat.reduceSub, Int.reduceAdd, Int.reduceMul, Int.reduceSub, Int.reduceNeg, Int.reduceToNat, q7], S, Z, who, told, wv, tv, hF, hS, by omega, by omega, by omega⟩
      · clear hF hS hwi hni hzi q0 q3 q4 q5 q6 q7 hd hbs hws S Z who told wv tv
        rintro e s hws ⟨⟨q3, q4, q5, q6, hd⟩, q0, q7, S, Z, who, told, wv, tv, hF, hS, hwi, hni, hzi⟩
        refine SemS.wp fun _ => ?_
        simp -implicitDefEqProofs (disch := first | omega | (simp only [St.set_n, St.up_n, List.length_cons, List.length_nil]; omega)) only [go_sem, Nat.reduceAdd, Nat.reduceMul, Nat.reduceSub, Int.reduceAdd, Int.reduceMul, Int.reduceSub, Int.reduceNeg, Int.reduceToNat, q7]
        exact ⟨l.length - (i + 1), by omega, _, To.refl _ _, i + 1, rfl, by omega, ⟨⟨by simp -implicitDefEqProofs (disch := first | omega | (simp only [St.set_n, St.up_n, List.length_cons, List.length_nil]; omega)) only [go_sem, Nat.reduceAdd, Nat.reduceMul, Nat.reduceSub, Int.reduceAdd, Int.reduceMul, Int.reduceSub, Int.reduceNeg, Int.reduceToNat, q3], by simp -implicitDefEqProofs (disch := first | omega | (simp only [St.set_n, St.up_n, List.length_cons, List.length_nil]; omega)) only [go_sem, Nat.reduceAdd, Nat.reduceMul, Nat.reduceSub, Int.reduceAdd, Int.reduceMul, Int.reduceSub, Int.reduceNeg, Int.reduceToNat, q4], by simp -implicitDefEqProofs (disch := first | omega | (simp only [St.set_n, St.up_n, List.length_cons, List.length_nil]; omega)) only [go_sem, Nat.reduceAdd, Nat.reduceMul, Nat.reduceSub, Int.reduceAdd, Int.reduceMul, Int.reduceSub, Int.reduceNeg, Int.reduceToNat, q5], by simp -implicitDefEqProofs (disch := first | omega | (simp only [St.set_n, St.up_n, List.length_cons, List.length_nil]; omega)) only [go_sem, Nat.reduceAdd, Nat.reduceMul, Nat.reduceSub, Int.reduceAdd, Int.reduceMul, Int.reduceSub, Int.reduceNeg, Int.reduceToNat, q6], by simp -implicitDefEqProofs (disch := first | omega | (simp only [St.set_n, St.up_n, List.length_cons, List.length_nil]; omega)) only [go_sem, Nat.reduceAdd, Nat.reduceMul, Nat.reduceSub, Int.reduceAdd, Int.reduceMul, Int.reduceSub, Int.reduceNeg, Int.reduceToNat, hd]⟩, by simp -implicitDefEqProofs (disch := first | omega | (simp only [St.set_n, St.up_n, List.length_cons, List.length_nil]; omega)) only [go_sem, Nat.reduceAdd, Nat.reduceMul, Nat.reduceSub, Int.reduceAdd, Int.reduceMul, Int.reduceSub, Int.reduceNeg, Int.reduceToNat, q0], by simp -implicitDefEqProofs (disch := first | omega | (simp only [St.set_n, St.up_n, List.length_cons, List.length_nil]; omega)) only [go_sem, Nat.reduceAdd, Nat.reduceMul, Nat.reduceSub, Int.reduceAdd, Int.reduceMul, Int.reduceSub, Int.reduceNeg, Int.reduceToNat]; rfl, S, Z, who, told, wv, tv, hF, hS, hwi, hni, hzi⟩⟩
    · refine SemS.wp fun _ => ?_
      simp -implicitDefEqProofs (disch := first | omega | (simp only [St.set_n, St.up_n, List.length_cons, List.length_nil]; omega)) only [go_sem, Nat.reduceAdd, Nat.reduceMul, Nat.reduceSub, Int.reduceAdd, Int.reduceMul, Int.reduceSub, Int.reduceNeg, Int.reduceToNat, q0, q7, hlt]
      refine loop_rule (fun m e s2 => ∃ (c : Nat) (S' : ES), m = 8 - c ∧ c ≤ 8 ∧ Mu k k1 (k1 + 1 + 1) c e ∧ Us σ k k1 (k1 + 1 + 1) S.now c Z who told wv tv S' s2) 8 ?_ ?_
      · exact ⟨0, S, by omega, by omega, ⟨⟨by simp -implicitDefEqProofs (disch := first | omega | (simp only [St.set_n, St.up_n, List.length_cons, List.length_nil]; omega)) only [go_sem, Nat.reduceAdd, Nat.reduceMul, Nat.reduceSub, Int.reduceAdd, Int.reduceMul, Int.reduceSub, Int.reduceNeg, Int.reduceToNat, q3], by simp -implicitDefEqProofs (disch := first | omega | (simp only [St.set_n, St.up_n, List.length_cons, List.length_nil]; omega)) only [go_sem, Nat.reduceAdd, Nat.reduceMul, Nat.reduceSub, Int.reduceAdd, Int.reduceMul, Int.reduceSub, Int.reduceNeg, Int.reduceToNat, q4], by simp -implicitDefEqProofs (disch := first | omega | (simp only [St.set_n, St.up_n, List.length_cons, List.length_nil]; omega)) only [go_sem, Nat.reduceAdd, Nat.reduceMul, Nat.reduceSub, Int.reduceAdd, Int.reduceMul, Int.reduceSub, Int.reduceNeg, Int.reduceToNat, q5], by simp -implicitDefEqProofs (disch := first | omega | (simp only [St.set_n, St.up_n, List.length_cons, List.length_nil]; omega)) only [go_sem, Nat.reduceAdd, Nat.reduceMul, Nat.reduceSub, Int.reduceAdd, Int.reduceMul, Int.reduceSub, Int.reduceNeg, Int.reduceToNat, q6], by simp -implicitDefEqProofs (disch := first | omega | (simp only [St.set_n, St.up_n, List.length_cons, List.length_nil]; omega)) only [go_sem, Nat.reduceAdd, Nat.reduceMul, Nat.reduceSub, Int.reduceAdd, Int.reduceMul, Int.reduceSub, Int.reduceNeg, Int.reduceToNat, hd]⟩, by simp -implicitDefEqProofs (disch := first | omega | (simp only [St.set_n, St.up_n, List.length_cons, List.length_nil]; omega)) only [go_sem, Nat.reduceAdd, Nat.reduceMul, Nat.reduceSub, Int.reduceAdd, Int.reduceMul, Int.reduceSub, Int.reduceNeg, Int.reduceToNat]; rfl⟩, hF, fun t ht => by omega, rfl⟩
      clear hF hS q0 q3 q4 q5 q6 q7 hd
      rintro m e s2 hws2 ⟨c, S', hm', hc, ⟨⟨q3, q4, q5, q6, hd⟩, q14⟩, hF, hp, hnow⟩
      by_cases hlt : (c : Int) < 8
      · simp -implicitDefEqProofs (disch := first | omega | (simp only [St.set_n, St.up_n, List.length_cons, List.length_nil]; omega)) only [go_sem, Nat.reduceAdd, Nat.reduceMul, Nat.reduceSub, Int.reduceAdd, Int.reduceMul, Int.reduceSub, Int.reduceNeg, Int.reduceToNat, q3, q14, hlt]
        refine callF_of (ep_unpin hF.ep fun k2 hk2 => ?_)
        simp -implicitDefEqProofs (disch := first | omega | (simp only [St.set_n, St.up_n, List.length_cons, List.length_nil]; omega)) only [go_sem, Nat.reduceAdd, Nat.reduceMul, Nat.reduceSub, Int.reduceAdd, Int.reduceMul, Int.reduceSub, Int.reduceNeg, Int.reduceToNat, q14]
        have hpn := hF.sf.pn
        obtain ⟨S'', hS'', hnow'', hSf'', hp''⟩ : ∃ S'', (if isPin S'.pin (c : Int) = true then { S' with pin := S'.pin.set (c : Int).toNat (-1) } else S') = S'' ∧ S''.now = S'.now ∧ Sf S'' Z who.length told ∧ ∀ t, t < c + 1 → S''.pin[t]? = some (-1) := by
          by_cases hpc : isPin S'.pin (c : Int) = true
          · refine ⟨_, if_pos hpc, rfl, hF.sf.unpin c, fun t ht => ?_⟩
            simp only [Int.toNat_natCast]
            by_cases e : t = c
            · subst e; rw [List.getElem?_set_self (by omega)]
            · rw [List.getElem?_set_ne (Ne.symm e)]; exact hp t (by omega)
          · refine ⟨_, if_neg hpc, rfl, hF.sf, fun t ht => ?_⟩
            by_cases e : t = c
            · subst e
              obtain ⟨y, hy⟩ : ∃ y, S'.pin[t]? = some y := ⟨S'.pin[t]'(by omega), List.getElem?_eq_getElem (by omega)⟩
              rcases hF.sf.pr t y hy with h1 | h1
              · rw [hy, h1]
              · exact absurd (isPin_iff.2 ⟨y, hy, h1.2.2⟩) hpc
            · exact hp t (by omega)
        simp only [Int.toNat_natCast] at hS''
        rw [hS'']
        exact ⟨8 - (c + 1), by omega, c + 1, S'', rfl, by omega, ⟨⟨by simp -implicitDefEqProofs (disch := first | omega | (simp only [St.set_n, St.up_n, List.length_cons, List.length_nil]; omega)) only [go_sem, Nat.reduceAdd, Nat.reduceMul, Nat.reduceSub, Int.reduceAdd, Int.reduceMul, Int.reduceSub, Int.reduceNeg, Int.reduceToNat, q3], by simp -implicitDefEqProofs (disch := first | omega | (simp only [St.set_n, St.up_n, List.length_cons, List.length_nil]; omega)) only [go_sem, Nat.reduceAdd, Nat.reduceMul, Nat.reduceSub, Int.reduceAdd, Int.reduceMul, Int.reduceSub, Int.reduceNeg, Int.reduceToNat, q4], by simp -implicitDefEqProofs (disch := first | omega | (simp only [St.set_n, St.up_n, List.length_cons, List.length_nil]; omega)) only [go_sem, Nat.reduceAdd, Nat.reduceMul, Nat.reduceSub, Int.reduceAdd, Int.reduceMul, Int.reduceSub, Int.reduceNeg, Int.reduceToNat, q5], by simp -implicitDefEqProofs (disch := first | omega | (simp only [St.set_n, St.up_n, List.length_cons, List.length_nil]; omega)) only [go_sem, Nat.reduceAdd, Nat.reduceMul, Nat.reduceSub, Int.reduceAdd, Int.reduceMul, Int.reduceSub, Int.reduceNeg, Int.reduceToNat, q6], by simp -implicitDefEqProofs (disch := first | omega | (simp only [St.set_n, St.up_n, List.length_cons, List.length_nil]; omega)) only [go_sem, Nat.reduceAdd, Nat.reduceMul, Nat.reduceSub, Int.reduceAdd, Int.reduceMul, Int.reduceSub, Int.reduceNeg, Int.reduceToNat, hd]⟩, by simp -implicitDefEqProofs (disch := first | omega | (simp only [St.set_n, St.up_n, List.length_cons, List.length_nil]; omega)) only [go_sem, Nat.reduceAdd, Nat.reduceMul, Nat.reduceSub, Int.reduceAdd, Int.reduceMul, Int.reduceSub, Int.reduceNeg, Int.reduceToNat]; rfl⟩, hF.ep' hSf'' (by simp -implicitDefEqProofs (disch := first | omega | (simp only [St.set_n, St.up_n, List.length_cons, List.length_nil]; omega)) only [go_sem, Nat.reduceAdd, Nat.reduceMul, Nat.reduceSub, Int.reduceAdd, Int.reduceMul, Int.reduceSub, Int.reduceNeg, Int.reduceToNat]) (fun d x hd' hx => by simp -implicitDefEqProofs (disch := first | omega | (simp only [St.set_n, St.up_n, List.length_cons, List.length_nil]; omega)) only [go_sem, Nat.reduceAdd, Nat.reduceMul, Nat.reduceSub, Int.reduceAdd, Int.reduceMul, Int.reduceSub, Int.reduceNeg, Int.reduceToNat, hx]) (by simp only [St.up_n, St.set_n]; omega), hp'', by omega⟩
      · have hc8 : c = 8 := by omega
        subst hc8
        have hcw := hF.cw
        obtain ⟨Aw, cw, rfl, _⟩ := hF.ow.is
        have a1 := (hws2.2 _ _ hF.cw).2
        have a2 := (hws2.2 _ _ hF.cd).2
        have hwl := hF.sf.wl
        obtain ⟨p1, p2, p3, p4, p5, p6, p7⟩ := hF.q1
        simp -implicitDefEqProofs (disch := first | omega | (simp only [St.set_n, St.up_n, List.length_cons, List.length_nil]; omega)) only [go_sem, Nat.reduceAdd, Nat.reduceMul, Nat.reduceSub, Int.reduceAdd, Int.reduceMul, Int.reduceSub, Int.reduceNeg, Int.reduceToNat, q4, q14, hlt, hcw]
        rw [zc_rows rfl]
        have hU : Ua σ k k1 (k1 + 1 + 1) 0 (List.replicate who.length fun _ => false) (.slice (some ⟨s2.n, 0, none⟩) who.length who.length) tv S' Z told (((s2.set s2.n (.raw (.cells (flat fR (List.replicate who.length fun _ => false)).toArray 29 (0, 0)))).set k1 (.raw (.cells #[.slice (some ⟨s2.n, 0, none⟩) who.length who.length] 26 (0, 0)))).up (s2.n + 1)) := by
          have hnb := hF.fresh hws2
          have hk9 : ∀ d x, d ≠ k1 → s2.m d = some x → (((s2.set s2.n (.raw (.cells (flat fR (List.replicate who.length fun _ => false)).toArray 29 (0, 0)))).set k1 (.raw (.cells #[.slice (some ⟨s2.n, 0, none⟩) who.length who.length] 26 (0, 0)))).up (s2.n + 1)).m d = some x := fun d x hd' hx => by
            have := (hws2.2 _ _ hx).2
            simp -implicitDefEqProofs (disch := first | omega | (simp only [St.set_n, St.up_n, List.length_cons, List.length_nil]; omega)) only [go_sem, Nat.reduceAdd, Nat.reduceMul, Nat.reduceSub, Int.reduceAdd, Int.reduceMul, Int.reduceSub, Int.reduceNeg, Int.reduceToNat, hx]
          refine ⟨⟨hk9 _ _ p4 hF.ep, by rw [List.length_replicate]; exact hF.sf, by simp -implicitDefEqProofs (disch := first | omega | (simp only [St.set_n, St.up_n, List.length_cons, List.length_nil]; omega)) only [go_sem, Nat.reduceAdd, Nat.reduceMul, Nat.reduceSub, Int.reduceAdd, Int.reduceMul, Int.reduceSub, Int.reduceNeg, Int.reduceToNat], hk9 _ _ (Ne.symm p6) hF.cd, ?_, hF.ot.keepR fun b o hb ho => hk9 _ _ (hF.nt b hb).2.2.1 ho, fun b hb e => ?_, fun b hb => ?_, hF.nt, ⟨p1, p2, p3, p4, p5, p6, by simp only [St.up_n]; omega⟩, fun d x hd' hx => hk9 _ _ (by omega) (hF.old d x hd' hx)⟩, fun x hx => ?_, fun z hz => ?_, by omega, by omega⟩
          · rw [List.length_replicate]
            refine Own.of' (sp := []) ?_ (by rw [flat_length fR_len, List.length_replicate]) (Nat.le_refl _) (by rw [List.append_nil, flat_length fR_len, List.length_replicate])
            rw [List.append_nil]
            have : s2.n ≠ k1 := by omega
            simp -implicitDefEqProofs (disch := first | omega | (simp only [St.set_n, St.up_n, List.length_cons, List.length_nil]; omega)) only [go_sem, Nat.reduceAdd, Nat.reduceMul, Nat.reduceSub, Int.reduceAdd, Int.reduceMul, Int.reduceSub, Int.reduceNeg, Int.reduceToNat]
          · simp only [blk, Option.some.injEq] at hb
            subst hb
            exact hnb.t e
          · simp only [blk, Option.some.injEq] at hb
            omega
          · obtain ⟨t, ht⟩ := List.getElem?_of_mem hx
            have htl := (List.getElem?_eq_some_iff.1 ht).1
            have := hp t (by have := hF.sf.pn; omega)
            rw [ht] at this
            exact Option.some.inj this
          · have := (hF.sf.lk.rng z hz).2
            omega
        generalize ((s2.set s2.n (.raw (.cells (flat fR (List.replicate who.length fun _ => false)).toArray 29 (0, 0)))).set k1 (.raw (.cells #[.slice (some ⟨s2.n, 0, none⟩) who.length who.length] 26 (0, 0)))).up (s2.n + 1) = s3 at hU ⊢
        generalize s2.n = nb at hU ⊢
        refine loop_rule (fun m e s4 => ∃ (c : Nat) (S9 : ES) (Z9 : List (Int × Int)) (told9 : List Bool), m = 3 - c ∧ c ≤ 3 ∧ Mv k k1 (k1 + 1 + 1) c e ∧ Ua σ k k1 (k1 + 1 + 1) c (List.replicate who.length fun _ => false) (.slice (some ⟨nb, 0, none⟩) who.length who.length) tv S9 Z9 told9 s4) 3 ?_ ?_
        · exact ⟨0, S', Z, told, by omega, by omega, ⟨⟨by simp -implicitDefEqProofs (disch := first | omega | (simp only [St.set_n, St.up_n, List.length_cons, List.length_nil]; omega)) only [go_sem, Nat.reduceAdd, Nat.reduceMul, Nat.reduceSub, Int.reduceAdd, Int.reduceMul, Int.reduceSub, Int.reduceNeg, Int.reduceToNat, q3], by simp -implicitDefEqProofs (disch := first | omega | (simp only [St.set_n, St.up_n, List.length_cons, List.length_nil]; omega)) only [go_sem, Nat.reduceAdd, Nat.reduceMul, Nat.reduceSub, Int.reduceAdd, Int.reduceMul, Int.reduceSub, Int.reduceNeg, Int.reduceToNat, q4], by simp -implicitDefEqProofs (disch := first | omega | (simp only [St.set_n, St.up_n, List.length_cons, List.length_nil]; omega)) only [go_sem, Nat.reduceAdd, Nat.reduceMul, Nat.reduceSub, Int.reduceAdd, Int.reduceMul, Int.reduceSub, Int.reduceNeg, Int.reduceToNat, q5], by simp -implicitDefEqProofs (disch := first | omega | (simp only [St.set_n, St.up_n, List.length_cons, List.length_nil]; omega)) only [go_sem, Nat.reduceAdd, Nat.reduceMul, Nat.reduceSub, Int.reduceAdd, Int.reduceMul, Int.reduceSub, Int.reduceNeg, Int.reduceToNat, q6], by simp -implicitDefEqProofs (disch := first | omega | (simp only [St.set_n, St.up_n, List.length_cons, List.length_nil]; omega)) only [go_sem, Nat.reduceAdd, Nat.reduceMul, Nat.reduceSub, Int.reduceAdd, Int.reduceMul, Int.reduceSub, Int.reduceNeg, Int.reduceToNat, hd]⟩, by simp -implicitDefEqProofs (disch := first | omega | (simp only [St.set_n, St.up_n, List.length_cons, List.length_nil]; omega)) only [go_sem, Nat.reduceAdd, Nat.reduceMul, Nat.reduceSub, Int.reduceAdd, Int.reduceMul, Int.reduceSub, Int.reduceNeg, Int.reduceToNat]; rfl⟩, hU⟩
        clear hU hF hcw q3 q4 q5 q6 q14 hd hp a1 a2
        rintro m e s4 hws4 ⟨c, S9, Z9, told9, hm9, hc9, ⟨⟨q3, q4, q5, q6, hd⟩, q15⟩, hF, hpins, hzs, hzl, hnl⟩
        have hll := lim_sum Z9
        have hpn := hF.sf.pn
        have hrl : (List.replicate who.length (fun _ => false : Row)).length = who.length := List.length_replicate
        have hsf := hF.sf
        rw [hrl] at hsf
        by_cases hlt : (c : Int) < 3
        · simp -implicitDefEqProofs (disch := first | omega | (simp only [St.set_n, St.up_n, List.length_cons, List.length_nil]; omega)) only [go_sem, Nat.reduceAdd, Nat.reduceMul, Nat.reduceSub, Int.reduceAdd, Int.reduceMul, Int.reduceSub, Int.reduceNeg, Int.reduceToNat, q3, q15, hlt]
          have ha := no_late hpins S9.now
          refine callF_wf (ep_advance hF.ep (by omega) (by omega) ha fun v s1 ov hq hkq hvq hn1 hb1 hw1 => ?_)
          simp -implicitDefEqProofs (disch := first | omega | (simp only [St.set_n, St.up_n, List.length_cons, List.length_nil]; omega)) only [go_sem, Nat.reduceAdd, Nat.reduceMul, Nat.reduceSub, Int.reduceAdd, Int.reduceMul, Int.reduceSub, Int.reduceNeg, Int.reduceToNat, q6]
          have hgl := gone_lim hsf.lk
          have hgn := gone_len ((S9.now : Int) + 1) Z9
          have hsn := stay_len ((S9.now : Int) + 1) Z9
          have hTl := hF.sf.tells seen_none ha
          rw [hgl] at hgn hTl
          have hk1' : ∀ c x, c ≠ k → s4.m c = some x → s1.m c = some x := fun c x hc hx => (hkq c x hc hx).1
          have hoff : ∀ c x, c ≠ k → s4.m c = some x → blk v ≠ some c := fun c x hc hx => (hkq c x hc hx).2
          have hq1 := hF.q1
          refine callF_of (tell hTl (by omega) (hk1' _ _ (Ne.symm hq1.2.2.2.1) hF.cw) (hk1' _ _ (Ne.symm hq1.2.2.2.2.1) hF.cd) ov (hF.ow.keepR fun b o hb ho => hk1' _ _ (hF.nw b hb).2.1 ho) (hF.ot.keepR fun b o hb ho => hk1' _ _ (hF.nt b hb).2.1 ho) (fun b hb e => ?_) hF.dwt (fun e => (hF.nt _ e).2.2.1 rfl) (fun e => (hF.nt _ e).2.2.2 rfl) fun τ hT => ?_)
          · obtain ⟨o, ho⟩ := hF.ot.at_ e
            exact hoff b _ (hF.nt b e).2.1 ho hb
          simp -implicitDefEqProofs (disch := first | omega | (simp only [St.set_n, St.up_n, List.length_cons, List.length_nil]; omega)) only [go_sem, Nat.reduceAdd, Nat.reduceMul, Nat.reduceSub, Int.reduceAdd, Int.reduceMul, Int.reduceSub, Int.reduceNeg, Int.reduceToNat, q15]
          rw [← hgl] at hT
          refine ⟨3 - (c + 1), by omega, c + 1, _, _, _, rfl, by omega, ⟨⟨by simp -implicitDefEqProofs (disch := first | omega | (simp only [St.set_n, St.up_n, List.length_cons, List.length_nil]; omega)) only [go_sem, Nat.reduceAdd, Nat.reduceMul, Nat.reduceSub, Int.reduceAdd, Int.reduceMul, Int.reduceSub, Int.reduceNeg, Int.reduceToNat, q3], by simp -implicitDefEqProofs (disch := first | omega | (simp only [St.set_n, St.up_n, List.length_cons, List.length_nil]; omega)) only [go_sem, Nat.reduceAdd, Nat.reduceMul, Nat.reduceSub, Int.reduceAdd, Int.reduceMul, Int.reduceSub, Int.reduceNeg, Int.reduceToNat, q4], by simp -implicitDefEqProofs (disch := first | omega | (simp only [St.set_n, St.up_n, List.length_cons, List.length_nil]; omega)) only [go_sem, Nat.reduceAdd, Nat.reduceMul, Nat.reduceSub, Int.reduceAdd, Int.reduceMul, Int.reduceSub, Int.reduceNeg, Int.reduceToNat, q5], by simp -implicitDefEqProofs (disch := first | omega | (simp only [St.set_n, St.up_n, List.length_cons, List.length_nil]; omega)) only [go_sem, Nat.reduceAdd, Nat.reduceMul, Nat.reduceSub, Int.reduceAdd, Int.reduceMul, Int.reduceSub, Int.reduceNeg, Int.reduceToNat, q6], by simp -implicitDefEqProofs (disch := first | omega | (simp only [St.set_n, St.up_n, List.length_cons, List.length_nil]; omega)) only [go_sem, Nat.reduceAdd, Nat.reduceMul, Nat.reduceSub, Int.reduceAdd, Int.reduceMul, Int.reduceSub, Int.reduceNeg, Int.reduceToNat, hd]⟩, by simp -implicitDefEqProofs (disch := first | omega | (simp only [St.set_n, St.up_n, List.length_cons, List.length_nil]; omega)) only [go_sem, Nat.reduceAdd, Nat.reduceMul, Nat.reduceSub, Int.reduceAdd, Int.reduceMul, Int.reduceSub, Int.reduceNeg, Int.reduceToNat]; rfl⟩, ⟨hF.told hq hk1' hn1 hT (hF.sf.advance ha), fun x hx => hpins x (by rw [put_pin] at hx; exact hx), fun z hz => ?_, by omega, by rw [put_now]; simp only; omega⟩⟩
          have := hzs z (stay_mem.1 hz).1
          rw [put_now]; simp only; omega
        · have hc3 : c = 3 := by omega
          subst hc3
          have hZ : Z9 = [] := by
            cases Z9 with
            | nil => rfl
            | cons z Z9 =>
              have a3 := hzs z (by simp)
              have a4 := (hsf.lk.rng z (by simp)).1
              omega
          subst hZ
          have htold : ∀ j : Nat, j < who.length → told9[j]? = some true := fun j hj => by
            have htl := hsf.tl
            have hwl := hsf.wl
            obtain ⟨y, hy⟩ : ∃ y, told9[j]? = some y := ⟨told9[j]'(by omega), List.getElem?_eq_getElem (by omega)⟩
            cases y with
            | true => exact hy
            | false => have := hsf.al j hj hy; simp at this
          simp -implicitDefEqProofs (disch := first | omega | (simp only [St.set_n, St.up_n, List.length_cons, List.length_nil]; omega)) only [go_sem, Nat.reduceAdd, Nat.reduceMul, Nat.reduceSub, Int.reduceAdd, Int.reduceMul, Int.reduceSub, Int.reduceNeg, Int.reduceToNat, q15]
          refine loop_rule (fun m e s5 => ∃ c : Nat, m = who.length - c ∧ c ≤ who.length ∧ Mw k k1 (k1 + 1 + 1) c e ∧ Seq s4 s5) who.length ?_ ?_
          · exact ⟨0, by omega, by omega, ⟨⟨by simp -implicitDefEqProofs (disch := first | omega | (simp only [St.set_n, St.up_n, List.length_cons, List.length_nil]; omega)) only [go_sem, Nat.reduceAdd, Nat.reduceMul, Nat.reduceSub, Int.reduceAdd, Int.reduceMul, Int.reduceSub, Int.reduceNeg, Int.reduceToNat, q3], by simp -implicitDefEqProofs (disch := first | omega | (simp only [St.set_n, St.up_n, List.length_cons, List.length_nil]; omega)) only [go_sem, Nat.reduceAdd, Nat.reduceMul, Nat.reduceSub, Int.reduceAdd, Int.reduceMul, Int.reduceSub, Int.reduceNeg, Int.reduceToNat, q4], by simp -implicitDefEqProofs (disch := first | omega | (simp only [St.set_n, St.up_n, List.length_cons, List.length_nil]; omega)) only [go_sem, Nat.reduceAdd, Nat.reduceMul, Nat.reduceSub, Int.reduceAdd, Int.reduceMul, Int.reduceSub, Int.reduceNeg, Int.reduceToNat, q5], by simp -implicitDefEqProofs (disch := first | omega | (simp only [St.set_n, St.up_n, List.length_cons, List.length_nil]; omega)) only [go_sem, Nat.reduceAdd, Nat.reduceMul, Nat.reduceSub, Int.reduceAdd, Int.reduceMul, Int.reduceSub, Int.reduceNeg, Int.reduceToNat, q6], by simp -implicitDefEqProofs (disch := first | omega | (simp only [St.set_n, St.up_n, List.length_cons, List.length_nil]; omega)) only [go_sem, Nat.reduceAdd, Nat.reduceMul, Nat.reduceSub, Int.reduceAdd, Int.reduceMul, Int.reduceSub, Int.reduceNeg, Int.reduceToNat, hd]⟩, by simp -implicitDefEqProofs (disch := first | omega | (simp only [St.set_n, St.up_n, List.length_cons, List.length_nil]; omega)) only [go_sem, Nat.reduceAdd, Nat.reduceMul, Nat.reduceSub, Int.reduceAdd, Int.reduceMul, Int.reduceSub, Int.reduceNeg, Int.reduceToNat]; rfl⟩, ⟨rfl⟩⟩
          clear q3 q4 q5 q6 q15 hd
          rintro m e s5 hws5 ⟨c, hm', hc, ⟨⟨q3, q4, q5, q6, hd⟩, q18⟩, ⟨rfl⟩⟩
          have hcw := hF.cw
          have hcd := hF.cd
          have htl := hsf.tl
          have hwl := hsf.wl
          by_cases hlt : (c : Int) < who.length
          · obtain ⟨bt, c3, spt, rfl, _, mt, lt, _⟩ := hF.ot.has (by omega)
            have gt : (bools told9 ++ spt)[c]? = some (.bool true) := bools_get (htold c (by omega)) spt
            have hct : (c : Int) < told9.length := by omega
            simp -implicitDefEqProofs (disch := first | omega | (simp only [St.set_n, St.up_n, List.length_cons, List.length_nil]; omega)) only [go_sem, Nat.reduceAdd, Nat.reduceMul, Nat.reduceSub, Int.reduceAdd, Int.reduceMul, Int.reduceSub, Int.reduceNeg, Int.reduceToNat, q4, q5, q18, hcw, hcd, hlt, mt, gt, hct]
            exact ⟨who.length - (c + 1), by omega, c + 1, rfl, by omega, ⟨⟨by simp -implicitDefEqProofs (disch := first | omega | (simp only [St.set_n, St.up_n, List.length_cons, List.length_nil]; omega)) only [go_sem, Nat.reduceAdd, Nat.reduceMul, Nat.reduceSub, Int.reduceAdd, Int.reduceMul, Int.reduceSub, Int.reduceNeg, Int.reduceToNat, q3], by simp -implicitDefEqProofs (disch := first | omega | (simp only [St.set_n, St.up_n, List.length_cons, List.length_nil]; omega)) only [go_sem, Nat.reduceAdd, Nat.reduceMul, Nat.reduceSub, Int.reduceAdd, Int.reduceMul, Int.reduceSub, Int.reduceNeg, Int.reduceToNat, q4], by simp -implicitDefEqProofs (disch := first | omega | (simp only [St.set_n, St.up_n, List.length_cons, List.length_nil]; omega)) only [go_sem, Nat.reduceAdd, Nat.reduceMul, Nat.reduceSub, Int.reduceAdd, Int.reduceMul, Int.reduceSub, Int.reduceNeg, Int.reduceToNat, q5], by simp -implicitDefEqProofs (disch := first | omega | (simp only [St.set_n, St.up_n, List.length_cons, List.length_nil]; omega)) only [go_sem, Nat.reduceAdd, Nat.reduceMul, Nat.reduceSub, Int.reduceAdd, Int.reduceMul, Int.reduceSub, Int.reduceNeg, Int.reduceToNat, q6], by simp -implicitDefEqProofs (disch := first | omega | (simp only [St.set_n, St.up_n, List.length_cons, List.length_nil]; omega)) only [go_sem, Nat.reduceAdd, Nat.reduceMul, Nat.reduceSub, Int.reduceAdd, Int.reduceMul, Int.reduceSub, Int.reduceNeg, Int.reduceToNat, hd]⟩, by simp -implicitDefEqProofs (disch := first | omega | (simp only [St.set_n, St.up_n, List.length_cons, List.length_nil]; omega)) only [go_sem, Nat.reduceAdd, Nat.reduceMul, Nat.reduceSub, Int.reduceAdd, Int.reduceMul, Int.reduceSub, Int.reduceNeg, Int.reduceToNat]; rfl⟩, ⟨rfl⟩⟩
          · simp -implicitDefEqProofs (disch := first | omega | (simp only [St.set_n, St.up_n, List.length_cons, List.length_nil]; omega)) only [go_sem, Nat.reduceAdd, Nat.reduceMul, Nat.reduceSub, Int.reduceAdd, Int.reduceMul, Int.reduceSub, Int.reduceNeg, Int.reduceToNat, q4, q3, q18, hcw, hlt]
            have hL := hsf.lk
            refine callF_of (ep_waiting hF.ep (by rw [hL.e0]; simp [lim]) (by rw [hL.e1]; simp [lim]) (by rw [hL.e2]; simp [lim]) fun k9 hk9 => ?_)
            rw [hL.e0, hL.e1, hL.e2]
            simp only [lim, List.filter_nil, List.map_nil, List.length_nil]
            simp -implicitDefEqProofs (disch := first | omega | (simp only [St.set_n, St.up_n, List.length_cons, List.length_nil]; omega)) only [go_sem, Nat.reduceAdd, Nat.reduceMul, Nat.reduceSub, Int.reduceAdd, Int.reduceMul, Int.reduceSub, Int.reduceNeg, Int.reduceToNat, hd]
            exact ⟨_, To.same (fun d y h2 h3 => by have := hF.old d y h2 h3; simp -implicitDefEqProofs (disch := first | omega | (simp only [St.set_n, St.up_n, List.length_cons, List.length_nil]; omega)) only [go_sem, Nat.reduceAdd, Nat.reduceMul, Nat.reduceSub, Int.reduceAdd, Int.reduceMul, Int.reduceSub, Int.reduceNeg, Int.reduceToNat, this]) hwf, hK _ (by have := hF.q1; simp only [St.up_n]; omega)⟩
end
end Go.Proofs.Ytgcojbgkenndhaa
