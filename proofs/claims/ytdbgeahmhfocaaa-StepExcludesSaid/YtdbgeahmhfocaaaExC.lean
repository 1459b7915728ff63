/- 'StepExcludes': contracts of its functions. -/
import Derived.Test.YtdbgeahmhfocaaaExP
import Derived.Test.YtdbgeahmhfocaaaOneD
namespace Go.Proofs.Ytdbgeahmhfocaaa
set_option linter.unusedSimpArgs false
set_option linter.unusedVariables false
set_option maxRecDepth 100000
open Go Go.RowKit
section
variable {B : World} {K : Value → St → Prop}
def RTs (B : World) (l : List Int) (cs : List Value) : Prop := ∃ v, cs = [v] ∧ SlR B 1 RInt l v
def bls (n : Nat) (w : Nat → Bool) : List Value := (List.range n).map fun i => .bool (w i)
theorem bls_get {n i : Nat} {w : Nat → Bool} (hi : i < n) : (bls n w)[i]? = some (.bool (w i)) := by simp [bls, hi]
theorem bls_set {n i : Nat} {w : Nat → Bool} {x : Bool} : (bls n w).set i (.bool x) = bls n (updL w i x) := by
  apply List.ext_getElem?
  intro j
  by_cases hj : j < n
  · rw [bls_get hj, List.getElem?_set]
    unfold updL
    by_cases e : i = j
    · subst e; rw [if_pos rfl, if_pos (by simp [bls]; exact hj), if_pos rfl]
    · rw [if_neg e, if_neg (fun e' => e e'.symm), bls_get hj]
  · rw [List.getElem?_eq_none (by simp [bls]; omega), List.getElem?_eq_none (by simp [bls]; omega)]
structure XB where
  bth : Nat
  bbad : Nat
  bwi : Nat
  ws : Nat
  bdn : Nat
  bg : Nat
  g : Nat
  b : Nat
/-- The world of the law: what all threads share. -/
structure XW (B : World) (q : XB) (n : Nat) (ods : Nat → List Int) (th : List (List Int)) (tv : Value) (cb : Nat → Nat) (H : XU → HF) : Prop where
  n8 : n ≤ 8
  len : th.length = n
  tvr : SlR B 1 (RTs B) th tv
  od : ∀ t, ods t = rise (th.getD t []) 8
  thb : ∀ u, H u q.bth = some (.raw (.cells #[tv] 23 (0, 0)))
  bad : ∀ u, H u q.bbad = some (.raw (.cells #[.bool u.bad] 4 (0, 0)))
  badf : ∀ (u : XU) x c, c ≠ q.bbad → H { u with bad := x } c = H u c
  wib : ∀ u, H u q.bwi = some (.raw (.cells #[.slice (some ⟨q.ws, 0, none⟩) n n] 27 (0, 0)))
  wi : ∀ u, H u q.ws = some (.raw (.cells (bls n u.wi).toArray 4 (0, 0)))
  wif : ∀ (u : XU) x c, c ≠ q.ws → H { u with wi := x } c = H u c
  dn : ∀ u, H u q.bdn = some (.raw (.cells #[.int .i64 u.dn] 3 (0, 0)))
  dnf : ∀ (u : XU) x c, c ≠ q.bdn → H { u with dn := x } c = H u c
  gb : ∀ u, H u q.bg = some (.raw (.cells #[.pointer (some ⟨q.g, 0, none⟩)] 25 (0, 0)))
  gr : ∀ u, H u q.g = some (.raw (.cells #[.slice (some ⟨q.b, 0, none⟩) (8 : Nat) (8 : Nat)] 60 (0, 0)))
  lk : ∀ u, H u q.b = some (.raw (.cells (flat fLk (lksA 8 u.l)).toArray 54 (0, 0)))
  lf : ∀ (u : XU) l c, c ≠ q.b → H { u with l := l } c = H u c
  cf : ∀ (u : XU) j x c, c ≠ cb j → H { u with cs := updL u.cs j x } c = H u c
  d1 : q.bbad ≠ q.ws
  d2 : q.bbad ≠ q.bdn
  d3 : q.ws ≠ q.bdn
def xCaps (q : XB) (bo bi bc br : Nat) : Array Value := #[.pointer (some ⟨q.bg, 0, none⟩), .pointer (some ⟨bo, 0, none⟩), .pointer (some ⟨bi, 0, none⟩), .pointer (some ⟨q.bth, 0, none⟩), .pointer (some ⟨q.bbad, 0, none⟩), .pointer (some ⟨q.bwi, 0, none⟩), .pointer (some ⟨bc, 0, none⟩), .pointer (some ⟨q.bdn, 0, none⟩), .pointer (some ⟨br, 0, none⟩)]
/-- What one thread has. -/
structure XT (B : World) (q : XB) (n : Nat) (ods : Nat → List Int) (cb : Nat → Nat) (H : XU → HF) (t bo bi bc br : Nat) (vo : Value) : Prop where
  tn : t < n
  i : ∀ u, H u bi = some (.raw (.cells #[.int .i64 t] 3 (0, 0)))
  o : ∀ u, H u bo = some (.raw (.cells #[vo] 22 (0, 0)))
  ov : ∀ h, OrdV (xL (B := B) n ods H) h vo (ods t)
  c : ∀ u, H u bc = some (.raw (.cells #[.pointer (some ⟨cb t, 0, none⟩)] 30 (0, 0)))
  cell : ∀ u, H u (cb t) = some (.raw (.cells #[.int .i64 (u.cs t).1, .int .i64 (u.cs t).2] 52 (0, 0)))
  r : ∀ u, H u br = some (.raw (.cells #[.func (.func 9) #[] (xCaps q bo bi bc br)] 32 (0, 0)))
variable {q : XB} {n : Nat} {ods : Nat → List Int} {th : List (List Int)} {tv : Value} {cb : Nat → Nat} {H : XU → HF} {t bo bi bc br : Nat} {vo : Value}
def xLk (hw : XW B q n ods th tv cb H) : LkW XU H q.b 8 where
  get := fun u => u.l
  set := fun u l => { u with l := l }
  hb := hw.lk
  hs := hw.lf
  gs := fun u l => rfl
def xCl (hw : XW B q n ods th tv cb H) (ht : XT B q n ods cb H t bo bi bc br vo) : ClW XU H (cb t) where
  get := fun u => u.cs t
  set := fun u x => { u with cs := updL u.cs t x }
  hb := ht.cell
  hs := fun u x c hc => hw.cf u t x c hc
  gs := fun u x => updL_eq
theorem exit_off (hw : XW B q n ods th tv cb H) {u : XU} {ok : Bool} {c : Nat} (h1 : c ≠ q.bbad) (h2 : c ≠ q.ws) (h3 : c ≠ q.bdn) : H (u.exit t ok) c = H u c := by
  have e : u.exit t ok = { ({ ({ u with bad := u.bad || !ok } : XU) with wi := updL u.wi t false } : XU) with dn := IntKind.i64.wrap (u.dn + 1) } := rfl
  rw [e, hw.dnf _ _ _ h3, hw.wif _ _ _ h2, hw.badf _ _ _ h1]
theorem exit_aft (hw : XW B q n ods th tv cb H) {G : Nat → Prop} {h : HF} {u : XU} {s : St} {ok : Bool} (he : Env (xL (B := B) n ods H) h G u s) (htn : t < n) :
    Aft (xL (B := B) n ods H) (fun _ h' => h' = h) G (u.exit t ok) s .nilFunc (((s.set q.bbad (.raw (.cells #[.bool (u.bad || !ok)] 4 (0, 0)))).set q.ws (.raw (.cells ((bls n u.wi).set t (.bool false)).toArray 4 (0, 0)))).set q.bdn (.raw (.cells #[.int .i64 (IntKind.i64.wrap (u.dn + 1))] 3 (0, 0)))) := by
  have d1 := hw.d1
  have d2 := hw.d2
  have d3 := hw.d3
  refine Aft.world he (Nat.le_refl _) (fun c y hn hx => ?_) fun c y hy => ?_
  · have n1 : c ≠ q.bbad := fun e => by rw [e, hw.bad] at hn; cases hn
    have n2 : c ≠ q.ws := fun e => by rw [e, hw.wi] at hn; cases hn
    have n3 : c ≠ q.bdn := fun e => by rw [e, hw.dn] at hn; cases hn
    simp -implicitDefEqProofs (disch := first | omega | (simp only [St.set_n, St.up_n, List.length_cons, List.length_nil]; omega)) only [go_sem, Nat.reduceAdd, Nat.reduceMul, Nat.reduceSub, Int.reduceAdd, Int.reduceMul, Int.reduceSub, Int.reduceNeg, Int.reduceToNat, hx]
  · by_cases e1 : c = q.bbad
    · subst e1
      rw [hw.bad] at hy
      cases hy
      exact ⟨by simp -implicitDefEqProofs (disch := first | omega | (simp only [St.set_n, St.up_n, List.length_cons, List.length_nil]; omega)) only [go_sem, Nat.reduceAdd, Nat.reduceMul, Nat.reduceSub, Int.reduceAdd, Int.reduceMul, Int.reduceSub, Int.reduceNeg, Int.reduceToNat]; rfl, by rw [hw.bad]; simp⟩
    · by_cases e2 : c = q.ws
      · subst e2
        rw [hw.wi] at hy
        cases hy
        rw [bls_set]
        exact ⟨by simp -implicitDefEqProofs (disch := first | omega | (simp only [St.set_n, St.up_n, List.length_cons, List.length_nil]; omega)) only [go_sem, Nat.reduceAdd, Nat.reduceMul, Nat.reduceSub, Int.reduceAdd, Int.reduceMul, Int.reduceSub, Int.reduceNeg, Int.reduceToNat]; rfl, by rw [hw.wi]; simp⟩
      · by_cases e3 : c = q.bdn
        · subst e3
          rw [hw.dn] at hy
          cases hy
          exact ⟨by simp -implicitDefEqProofs (disch := first | omega | (simp only [St.set_n, St.up_n, List.length_cons, List.length_nil]; omega)) only [go_sem, Nat.reduceAdd, Nat.reduceMul, Nat.reduceSub, Int.reduceAdd, Int.reduceMul, Int.reduceSub, Int.reduceNeg, Int.reduceToNat]; rfl, by rw [hw.dn]; simp⟩
        · rw [exit_off hw e1 e2 e3] at hy
          have := (he.at hy).1
          exact ⟨by simp -implicitDefEqProofs (disch := first | omega | (simp only [St.set_n, St.up_n, List.length_cons, List.length_nil]; omega)) only [go_sem, Nat.reduceAdd, Nat.reduceMul, Nat.reduceSub, Int.reduceAdd, Int.reduceMul, Int.reduceSub, Int.reduceNeg, Int.reduceToNat, this], by rw [hy]; simp⟩
theorem x_exit (hw : XW B q n ods th tv cb H) (ht : XT B q n ods cb H t bo bi bc br vo) {h : HF} {bok : Nat} {ok : Bool} (hok : h bok = some (.raw (.cells #[.bool ok] 4 (0, 0)))) :
    FxOk (xL (B := B) n ods H) (fun u => u.exit t ok) (fun _ => h) (.func (.func 20) #[] #[.pointer (some ⟨q.bbad, 0, none⟩), .pointer (some ⟨bok, 0, none⟩), .pointer (some ⟨q.bwi, 0, none⟩), .pointer (some ⟨bi, 0, none⟩), .pointer (some ⟨q.bdn, 0, none⟩)]) h := by
  refine .inr ⟨_, _, _, rfl, fun G (u : XU) s he => ?_⟩
  obtain ⟨o1, _, f1⟩ := he.at (hw.bad u)
  have o2 := he.sub _ _ hok
  have o3 := (he.at (hw.wib u)).1
  obtain ⟨o4, _, f4⟩ := he.at (hw.wi u)
  have o5 := (he.at (ht.i u)).1
  obtain ⟨o6, _, f6⟩ := he.at (hw.dn u)
  have d1 := hw.d1
  have d2 := hw.d2
  have d3 := hw.d3
  have d4 : q.bwi ≠ q.bbad := fun e => by have := hw.wib u; rw [e, hw.bad] at this; simp at this
  have d5 : bi ≠ q.bbad := fun e => by have := ht.i u; rw [e, hw.bad] at this; simp at this
  have d6 : q.bwi ≠ q.ws := fun e => by have := hw.wib u; rw [e, hw.wi] at this; simp at this
  have d7 : bi ≠ q.ws := fun e => by have := ht.i u; rw [e, hw.wi] at this; simp at this
  have htn : (t : Int) < n := by have := ht.tn; omega
  have hbl : (bls n u.wi).length = n := by simp [bls]
  refine Fn.of is20 (by simp) fun hwf => ?_
  simp only [b20, Try.f20, Option.getD_some]
  cases hb : u.bad with
  | true =>
    rw [hb] at o1
    simp -implicitDefEqProofs (disch := first | omega | (simp only [St.set_n, St.up_n, List.length_cons, List.length_nil]; omega)) only [go_sem, Nat.reduceAdd, Nat.reduceMul, Nat.reduceSub, Int.reduceAdd, Int.reduceMul, Int.reduceSub, Int.reduceNeg, Int.reduceToNat, o1, o2, o3, o4, o5, o6, d1, d2, d3, d4, d5, d6, d7, htn, hbl]
    have := exit_aft (ok := ok) hw he ht.tn
    rw [hb] at this
    simpa using this
  | false =>
    rw [hb] at o1
    simp -implicitDefEqProofs (disch := first | omega | (simp only [St.set_n, St.up_n, List.length_cons, List.length_nil]; omega)) only [go_sem, Nat.reduceAdd, Nat.reduceMul, Nat.reduceSub, Int.reduceAdd, Int.reduceMul, Int.reduceSub, Int.reduceNeg, Int.reduceToNat, o1, o2, o3, o4, o5, o6, d1, d2, d3, d4, d5, d6, d7, htn, hbl]
    have := exit_aft (ok := ok) hw he ht.tn
    rw [hb] at this
    simpa using this
structure EnI (q : XB) (bo bi k : Nat) (e : Fr) : Prop where
  v0 : e.v 0 = .pointer (some ⟨q.bth, 0, none⟩)
  v1 : e.v 1 = .pointer (some ⟨q.bbad, 0, none⟩)
  v2 : e.v 2 = .pointer (some ⟨q.bwi, 0, none⟩)
  v3 : e.v 3 = .pointer (some ⟨bo, 0, none⟩)
  v4 : e.v 4 = .pointer (some ⟨bi, 0, none⟩)
  v5 : e.v 5 = .int .i64 k
  d : e.d = []
def anyT (u : XU) (ods : Nat → List Int) (t k : Nat) : Bool := u.bad || (List.range k).any fun j => u.wi j && commonB (ods t) (ods j)
theorem anyT_succ (u : XU) (ods : Nat → List Int) (t k : Nat) : anyT u ods t (k + 1) = (anyT u ods t k || (u.wi k && commonB (ods t) (ods k))) := by
  unfold anyT
  rw [List.range_succ, List.any_append]
  simp [Bool.or_assoc]
structure EnS (q : XB) (bd : Bool) (s s' : St) : Prop where
  old : ∀ c, c < s.n → c ≠ q.bbad → s'.m c = s.m c
  bad : s'.m q.bbad = some (.raw (.cells #[.bool bd] 4 (0, 0)))
  n : s.n ≤ s'.n
theorem enter_off (hw : XW B q n ods th tv cb H) {u : XU} {c : Nat} (h1 : c ≠ q.bbad) (h2 : c ≠ q.ws) : H (u.enter n ods t) c = H u c := by
  have e : u.enter n ods t = { ({ u with bad := anyT u ods t n } : XU) with wi := updL u.wi t true } := rfl
  rw [e, hw.wif _ _ _ h2, hw.badf _ _ _ h1]
set_option maxHeartbeats 4000000 in
theorem x_enter (hw : XW B q n ods th tv cb H) (ht : XT B q n ods cb H t bo bi bc br vo) {h : HF} :
    FxOk (xL (B := B) n ods H) (fun u => u.enter n ods t) (fun _ => h) (.func (.func 13) #[] #[.pointer (some ⟨q.bth, 0, none⟩), .pointer (some ⟨q.bbad, 0, none⟩), .pointer (some ⟨q.bwi, 0, none⟩), .pointer (some ⟨bo, 0, none⟩), .pointer (some ⟨bi, 0, none⟩)]) h := by
  refine .inr ⟨_, _, _, rfl, fun G (u : XU) s he => ?_⟩
  obtain ⟨o1, _, f1⟩ := he.at (hw.bad u)
  have o2 := (he.at (hw.thb u)).1
  have o3 := (he.at (hw.wib u)).1
  obtain ⟨o4, _, f4⟩ := he.at (hw.wi u)
  have o5 := (he.at (ht.i u)).1
  have o6 := (he.at (ht.o u)).1
  have hro : RdO s vo (ods t) := RdO.ord (ht.ov h) he
  have d1 := hw.d1
  have d4 : q.bwi ≠ q.bbad := fun e => by have := hw.wib u; rw [e, hw.bad] at this; simp at this
  have d5 : bi ≠ q.bbad := fun e => by have := ht.i u; rw [e, hw.bad] at this; simp at this
  have d8 : bo ≠ q.bbad := fun e => by have := ht.o u; rw [e, hw.bad] at this; simp at this
  have d9 : q.bth ≠ q.bbad := fun e => by have := hw.thb u; rw [e, hw.bad] at this; simp at this
  have htn : (t : Int) < n := by have := ht.tn; omega
  have hbl : (bls n u.wi).length = n := by simp [bls]
  have hn8 := hw.n8
  have hws := he.wf
  have hS0 := o1
  obtain ⟨A, cap, htv, hlc, hcm, hnil, hat⟩ := hw.tvr
  rw [hw.len] at htv
  subst htv
  refine Fn.ofS is13 (by simp) fun hwf => ?_
  simp only [b13, Try.f13, Option.getD_some]
  refine SemS.seq (fun e s' => EnI q bo bi n e ∧ EnS q (anyT u ods t n) s s') ?_ ?_
  · refine SemS.seqw fun _ => ?_
    simp -implicitDefEqProofs (disch := first | omega | (simp only [St.set_n, St.up_n, List.length_cons, List.length_nil]; omega)) only [go_sem, Nat.reduceAdd, Nat.reduceMul, Nat.reduceSub, Int.reduceAdd, Int.reduceMul, Int.reduceSub, Int.reduceNeg, Int.reduceToNat]
    refine SemS.block (SemS.loop (fun m e s' => ∃ k : Nat, m = n - k ∧ k ≤ n ∧ EnI q bo bi k e ∧ EnS q (anyT u ods t k) s s') n ?_ ?_)
    · exact ⟨0, by omega, by omega, ⟨by simp -implicitDefEqProofs (disch := first | omega | (simp only [St.set_n, St.up_n, List.length_cons, List.length_nil]; omega)) only [go_sem, Nat.reduceAdd, Nat.reduceMul, Nat.reduceSub, Int.reduceAdd, Int.reduceMul, Int.reduceSub, Int.reduceNeg, Int.reduceToNat], by simp -implicitDefEqProofs (disch := first | omega | (simp only [St.set_n, St.up_n, List.length_cons, List.length_nil]; omega)) only [go_sem, Nat.reduceAdd, Nat.reduceMul, Nat.reduceSub, Int.reduceAdd, Int.reduceMul, Int.reduceSub, Int.reduceNeg, Int.reduceToNat], by simp -implicitDefEqProofs (disch := first | omega | (simp only [St.set_n, St.up_n, List.length_cons, List.length_nil]; omega)) only [go_sem, Nat.reduceAdd, Nat.reduceMul, Nat.reduceSub, Int.reduceAdd, Int.reduceMul, Int.reduceSub, Int.reduceNeg, Int.reduceToNat], by simp -implicitDefEqProofs (disch := first | omega | (simp only [St.set_n, St.up_n, List.length_cons, List.length_nil]; omega)) only [go_sem, Nat.reduceAdd, Nat.reduceMul, Nat.reduceSub, Int.reduceAdd, Int.reduceMul, Int.reduceSub, Int.reduceNeg, Int.reduceToNat], by simp -implicitDefEqProofs (disch := first | omega | (simp only [St.set_n, St.up_n, List.length_cons, List.length_nil]; omega)) only [go_sem, Nat.reduceAdd, Nat.reduceMul, Nat.reduceSub, Int.reduceAdd, Int.reduceMul, Int.reduceSub, Int.reduceNeg, Int.reduceToNat], by simp -implicitDefEqProofs (disch := first | omega | (simp only [St.set_n, St.up_n, List.length_cons, List.length_nil]; omega)) only [go_sem, Nat.reduceAdd, Nat.reduceMul, Nat.reduceSub, Int.reduceAdd, Int.reduceMul, Int.reduceSub, Int.reduceNeg, Int.reduceToNat]; rfl, by simp -implicitDefEqProofs (disch := first | omega | (simp only [St.set_n, St.up_n, List.length_cons, List.length_nil]; omega)) only [go_sem, Nat.reduceAdd, Nat.reduceMul, Nat.reduceSub, Int.reduceAdd, Int.reduceMul, Int.reduceSub, Int.reduceNeg, Int.reduceToNat]⟩, ⟨fun c _ _ => rfl, by rw [o1]; simp [anyT], Nat.le_refl _⟩⟩
    rintro m e s' hws' ⟨k, hm, hk, ⟨q0, q1, q2, q3, q4, q5, hd⟩, hS⟩
    have o2' := (hS.old _ (hws.2 _ _ o2).2 d9).trans o2
    have o3' := (hS.old _ (hws.2 _ _ o3).2 d4).trans o3
    have o4' := (hS.old _ (hws.2 _ _ o4).2 (Ne.symm d1)).trans o4
    have o6' := (hS.old _ (hws.2 _ _ o6).2 d8).trans o6
    have o1' := hS.bad
    have o1n := (hws'.2 _ _ o1').2
    refine SemS.wp fun _ => ?_
    by_cases hlt : (k : Int) < n
    · obtain ⟨l, hl⟩ : ∃ l, th[k]? = some l := ⟨th[k]'(by have := hw.len; omega), List.getElem?_eq_getElem (by have := hw.len; omega)⟩
      obtain ⟨b, o, cs, rfl, hbb, ⟨v', rfl, hv'⟩, hsz, hcell⟩ := hat k l hl
      have c0 : B.cell? ⟨b, o + k * 1, none⟩ = _ := hcell 0 _ rfl
      rw [Nat.mul_one] at c0
      have hsb : s'.m b = none := by
        cases hx : s'.m b with
        | none => rfl
        | some y => have := (hws'.2 _ _ hx).1; omega
      have hodk : ods k = rise l 8 := by rw [hw.od, List.getD_eq_getElem?_getD, hl]; rfl
      have w1 : (bls n u.wi)[k]? = some (.bool (u.wi k)) := bls_get (by omega)
      have hs1 := anyT_succ u ods t k
      cases hbk : anyT u ods t k with
      | true =>
        rw [hbk] at o1' hs1
        simp only [Bool.true_or] at hs1
        simp -implicitDefEqProofs (disch := first | omega | (simp only [St.set_n, St.up_n, List.length_cons, List.length_nil]; omega)) only [go_sem, Nat.reduceAdd, Nat.reduceMul, Nat.reduceSub, Int.reduceAdd, Int.reduceMul, Int.reduceSub, Int.reduceNeg, Int.reduceToNat, q0, q1, q2, q3, q4, q5, o2', o3', o4', o6', o1', hlt, hsb, hbb, c0, hbl, w1]
        refine effD_tail (by kernel_rfl) ?_
        simp -implicitDefEqProofs (disch := first | omega | (simp only [St.set_n, St.up_n, List.length_cons, List.length_nil]; omega)) only [go_sem, Nat.reduceAdd, Nat.reduceMul, Nat.reduceSub, Int.reduceAdd, Int.reduceMul, Int.reduceSub, Int.reduceNeg, Int.reduceToNat, q0, q1, q2, q3, q4, q5, o1']
        intro jj hjj
        refine ⟨n - (k + 1), by omega, _, To.refl _ _, k + 1, rfl, by omega, ⟨by simp -implicitDefEqProofs (disch := first | omega | (simp only [St.set_n, St.up_n, List.length_cons, List.length_nil]; omega)) only [go_sem, Nat.reduceAdd, Nat.reduceMul, Nat.reduceSub, Int.reduceAdd, Int.reduceMul, Int.reduceSub, Int.reduceNeg, Int.reduceToNat, q0], by simp -implicitDefEqProofs (disch := first | omega | (simp only [St.set_n, St.up_n, List.length_cons, List.length_nil]; omega)) only [go_sem, Nat.reduceAdd, Nat.reduceMul, Nat.reduceSub, Int.reduceAdd, Int.reduceMul, Int.reduceSub, Int.reduceNeg, Int.reduceToNat, q1], by simp -implicitDefEqProofs (disch := first | omega | (simp only [St.set_n, St.up_n, List.length_cons, List.length_nil]; omega)) only [go_sem, Nat.reduceAdd, Nat.reduceMul, Nat.reduceSub, Int.reduceAdd, Int.reduceMul, Int.reduceSub, Int.reduceNeg, Int.reduceToNat, q2], by simp -implicitDefEqProofs (disch := first | omega | (simp only [St.set_n, St.up_n, List.length_cons, List.length_nil]; omega)) only [go_sem, Nat.reduceAdd, Nat.reduceMul, Nat.reduceSub, Int.reduceAdd, Int.reduceMul, Int.reduceSub, Int.reduceNeg, Int.reduceToNat, q3], by simp -implicitDefEqProofs (disch := first | omega | (simp only [St.set_n, St.up_n, List.length_cons, List.length_nil]; omega)) only [go_sem, Nat.reduceAdd, Nat.reduceMul, Nat.reduceSub, Int.reduceAdd, Int.reduceMul, Int.reduceSub, Int.reduceNeg, Int.reduceToNat, q4], by simp -implicitDefEqProofs (disch := first | omega | (simp only [St.set_n, St.up_n, List.length_cons, List.length_nil]; omega)) only [go_sem, Nat.reduceAdd, Nat.reduceMul, Nat.reduceSub, Int.reduceAdd, Int.reduceMul, Int.reduceSub, Int.reduceNeg, Int.reduceToNat]; rfl, by simp -implicitDefEqProofs (disch := first | omega | (simp only [St.set_n, St.up_n, List.length_cons, List.length_nil]; omega)) only [go_sem, Nat.reduceAdd, Nat.reduceMul, Nat.reduceSub, Int.reduceAdd, Int.reduceMul, Int.reduceSub, Int.reduceNeg, Int.reduceToNat, hd]⟩, ⟨fun c hc hne => ?_, ?_, by have := hS.n; simp only [St.up_n]; omega⟩⟩
        · simp only [St.up_m]; rw [St.set_m_ne _ _ hne]; exact hS.old c hc hne
        · rw [hs1]; simp -implicitDefEqProofs (disch := first | omega | (simp only [St.set_n, St.up_n, List.length_cons, List.length_nil]; omega)) only [go_sem, Nat.reduceAdd, Nat.reduceMul, Nat.reduceSub, Int.reduceAdd, Int.reduceMul, Int.reduceSub, Int.reduceNeg, Int.reduceToNat]
      | false =>
        rw [hbk] at o1' hs1
        simp only [Bool.false_or] at hs1
        cases hwk : u.wi k with
        | false =>
          rw [hwk] at hs1 w1
          simp -implicitDefEqProofs (disch := first | omega | (simp only [St.set_n, St.up_n, List.length_cons, List.length_nil]; omega)) only [go_sem, Nat.reduceAdd, Nat.reduceMul, Nat.reduceSub, Int.reduceAdd, Int.reduceMul, Int.reduceSub, Int.reduceNeg, Int.reduceToNat, q0, q1, q2, q3, q4, q5, o2', o3', o4', o6', o1', hlt, hsb, hbb, c0, hbl, w1]
          refine effD_tail (by kernel_rfl) ?_
          simp -implicitDefEqProofs (disch := first | omega | (simp only [St.set_n, St.up_n, List.length_cons, List.length_nil]; omega)) only [go_sem, Nat.reduceAdd, Nat.reduceMul, Nat.reduceSub, Int.reduceAdd, Int.reduceMul, Int.reduceSub, Int.reduceNeg, Int.reduceToNat, q0, q1, q2, q3, q4, q5, o1']
          intro jj hjj
          refine ⟨n - (k + 1), by omega, _, To.refl _ _, k + 1, rfl, by omega, ⟨by simp -implicitDefEqProofs (disch := first | omega | (simp only [St.set_n, St.up_n, List.length_cons, List.length_nil]; omega)) only [go_sem, Nat.reduceAdd, Nat.reduceMul, Nat.reduceSub, Int.reduceAdd, Int.reduceMul, Int.reduceSub, Int.reduceNeg, Int.reduceToNat, q0], by simp -implicitDefEqProofs (disch := first | omega | (simp only [St.set_n, St.up_n, List.length_cons, List.length_nil]; omega)) only [go_sem, Nat.reduceAdd, Nat.reduceMul, Nat.reduceSub, Int.reduceAdd, Int.reduceMul, Int.reduceSub, Int.reduceNeg, Int.reduceToNat, q1], by simp -implicitDefEqProofs (disch := first | omega | (simp only [St.set_n, St.up_n, List.length_cons, List.length_nil]; omega)) only [go_sem, Nat.reduceAdd, Nat.reduceMul, Nat.reduceSub, Int.reduceAdd, Int.reduceMul, Int.reduceSub, Int.reduceNeg, Int.reduceToNat, q2], by simp -implicitDefEqProofs (disch := first | omega | (simp only [St.set_n, St.up_n, List.length_cons, List.length_nil]; omega)) only [go_sem, Nat.reduceAdd, Nat.reduceMul, Nat.reduceSub, Int.reduceAdd, Int.reduceMul, Int.reduceSub, Int.reduceNeg, Int.reduceToNat, q3], by simp -implicitDefEqProofs (disch := first | omega | (simp only [St.set_n, St.up_n, List.length_cons, List.length_nil]; omega)) only [go_sem, Nat.reduceAdd, Nat.reduceMul, Nat.reduceSub, Int.reduceAdd, Int.reduceMul, Int.reduceSub, Int.reduceNeg, Int.reduceToNat, q4], by simp -implicitDefEqProofs (disch := first | omega | (simp only [St.set_n, St.up_n, List.length_cons, List.length_nil]; omega)) only [go_sem, Nat.reduceAdd, Nat.reduceMul, Nat.reduceSub, Int.reduceAdd, Int.reduceMul, Int.reduceSub, Int.reduceNeg, Int.reduceToNat]; rfl, by simp -implicitDefEqProofs (disch := first | omega | (simp only [St.set_n, St.up_n, List.length_cons, List.length_nil]; omega)) only [go_sem, Nat.reduceAdd, Nat.reduceMul, Nat.reduceSub, Int.reduceAdd, Int.reduceMul, Int.reduceSub, Int.reduceNeg, Int.reduceToNat, hd]⟩, ⟨fun c hc hne => ?_, ?_, by have := hS.n; simp only [St.up_n]; omega⟩⟩
          · simp only [St.up_m]; rw [St.set_m_ne _ _ hne]; exact hS.old c hc hne
          · rw [hs1]; simp -implicitDefEqProofs (disch := first | omega | (simp only [St.set_n, St.up_n, List.length_cons, List.length_nil]; omega)) only [go_sem, Nat.reduceAdd, Nat.reduceMul, Nat.reduceSub, Int.reduceAdd, Int.reduceMul, Int.reduceSub, Int.reduceNeg, Int.reduceToNat]
        | true =>
          rw [hwk] at hs1 w1
          simp -implicitDefEqProofs (disch := first | omega | (simp only [St.set_n, St.up_n, List.length_cons, List.length_nil]; omega)) only [go_sem, Nat.reduceAdd, Nat.reduceMul, Nat.reduceSub, Int.reduceAdd, Int.reduceMul, Int.reduceSub, Int.reduceNeg, Int.reduceToNat, q0, q1, q2, q3, q4, q5, o2', o3', o4', o6', o1', hlt, hsb, hbb, c0, hbl, w1]
          refine effD_plan [0, 1, 3, 3, 15, 31, 63, 127, 127, 127, 895, 1919, 3967, 8191, 16383, 32767, 65535] [0, 1, 2, 3, 4, 5, 6, 7, 8, 9, 10, 11, 14, 15] (.eagq 0 (.eag 1 (.eagq 2 (.eag 3 (.eag 4 (.eagq 5 (.eag 6 (.eagq 7 (.eagq 8 (.eag 9 (.eag 10 (.eagq 11 (.alt 12 [7] (.alt 13 [] (.eag 14 (.eag 15 (.alt 16 [] .fin .stop))) .stop) .stop))))))))))))) (by kernel_rfl) ?_
          simp -implicitDefEqProofs (disch := first | omega | (simp only [St.set_n, St.up_n, List.length_cons, List.length_nil]; omega)) only [go_sem, Nat.reduceAdd, Nat.reduceMul, Nat.reduceSub, Int.reduceAdd, Int.reduceMul, Int.reduceSub, Int.reduceNeg, Int.reduceToNat, q0, q1, q2, q3, q4, q5, o2', o3', o4', o6', o1', hlt, hsb, hbb, c0, hbl, w1]
          refine callF_wf (rising_of hv' (by obtain ⟨a2, c2, h2, h3, h4, _⟩ := hv'; unfold maxLen at h4; omega) fun v2 s2 hO2 hold2 hn2 hb2 hw2 => ?_)
          have r1 := (hold2 _ o1n).trans o1'
          have r6' := (hold2 _ (hws'.2 _ _ o6').2).trans o6'
          have r6 : ∀ c y, c ≠ q.bbad → s.m c = some y → s2.m c = some y := fun c y hne hx => by
            have h1 := (hws.2 _ _ hx).2
            have h2 := hS.n
            rw [hold2 c (by omega)]
            exact (hS.old c h1 hne).trans hx
          simp -implicitDefEqProofs (disch := first | omega | (simp only [St.set_n, St.up_n, List.length_cons, List.length_nil]; omega)) only [go_sem, Nat.reduceAdd, Nat.reduceMul, Nat.reduceSub, Int.reduceAdd, Int.reduceMul, Int.reduceSub, Int.reduceNeg, Int.reduceToNat, q0, q1, q2, q3, q4, q5, r6']
          have hro2 : RdO s2 vo (ods t) := by
            obtain ⟨A1, c1, h1, h2⟩ := hro.is
            refine ⟨A1, c1, h1, fun hne => ?_⟩
            obtain ⟨b1, o1, cs1, ty1, e1, m1, g1⟩ := h2 hne
            refine ⟨b1, o1, cs1, ty1, e1, ?_, g1⟩
            by_cases eb : b1 = q.bbad
            · exfalso
              rw [eb, hS0] at m1
              cases m1
              obtain ⟨z, zs, hz⟩ : ∃ z zs, ods t = z :: zs := by
                cases h : ods t with
                | nil => exact absurd h hne
                | cons z zs => exact ⟨z, zs, rfl⟩
              have := g1 0 z (by rw [hz]; rfl)
              match o1, this with
              | 0, this => simp at this
              | o1 + 1, this => simp at this
            · exact r6 _ _ eb m1
          refine callF_of (common_of hro2 (RdO.own hO2) (by rw [hw.od]; have := rise_len (th.getD t []) 8; omega) (by have := rise_len l 8; omega) ?_)
          rw [← hodk]
          have r1n := (hw2.2 _ _ r1).2
          simp only [Bool.true_and] at hs1
          simp -implicitDefEqProofs (disch := first | omega | (simp only [St.set_n, St.up_n, List.length_cons, List.length_nil]; omega)) only [go_sem, Nat.reduceAdd, Nat.reduceMul, Nat.reduceSub, Int.reduceAdd, Int.reduceMul, Int.reduceSub, Int.reduceNeg, Int.reduceToNat, q0, q1, q2, q3, q4, q5, r1]
          refine ⟨n - (k + 1), by omega, _, To.refl _ _, k + 1, rfl, by omega, ⟨by simp -implicitDefEqProofs (disch := first | omega | (simp only [St.set_n, St.up_n, List.length_cons, List.length_nil]; omega)) only [go_sem, Nat.reduceAdd, Nat.reduceMul, Nat.reduceSub, Int.reduceAdd, Int.reduceMul, Int.reduceSub, Int.reduceNeg, Int.reduceToNat, q0], by simp -implicitDefEqProofs (disch := first | omega | (simp only [St.set_n, St.up_n, List.length_cons, List.length_nil]; omega)) only [go_sem, Nat.reduceAdd, Nat.reduceMul, Nat.reduceSub, Int.reduceAdd, Int.reduceMul, Int.reduceSub, Int.reduceNeg, Int.reduceToNat, q1], by simp -implicitDefEqProofs (disch := first | omega | (simp only [St.set_n, St.up_n, List.length_cons, List.length_nil]; omega)) only [go_sem, Nat.reduceAdd, Nat.reduceMul, Nat.reduceSub, Int.reduceAdd, Int.reduceMul, Int.reduceSub, Int.reduceNeg, Int.reduceToNat, q2], by simp -implicitDefEqProofs (disch := first | omega | (simp only [St.set_n, St.up_n, List.length_cons, List.length_nil]; omega)) only [go_sem, Nat.reduceAdd, Nat.reduceMul, Nat.reduceSub, Int.reduceAdd, Int.reduceMul, Int.reduceSub, Int.reduceNeg, Int.reduceToNat, q3], by simp -implicitDefEqProofs (disch := first | omega | (simp only [St.set_n, St.up_n, List.length_cons, List.length_nil]; omega)) only [go_sem, Nat.reduceAdd, Nat.reduceMul, Nat.reduceSub, Int.reduceAdd, Int.reduceMul, Int.reduceSub, Int.reduceNeg, Int.reduceToNat, q4], by simp -implicitDefEqProofs (disch := first | omega | (simp only [St.set_n, St.up_n, List.length_cons, List.length_nil]; omega)) only [go_sem, Nat.reduceAdd, Nat.reduceMul, Nat.reduceSub, Int.reduceAdd, Int.reduceMul, Int.reduceSub, Int.reduceNeg, Int.reduceToNat]; rfl, by simp -implicitDefEqProofs (disch := first | omega | (simp only [St.set_n, St.up_n, List.length_cons, List.length_nil]; omega)) only [go_sem, Nat.reduceAdd, Nat.reduceMul, Nat.reduceSub, Int.reduceAdd, Int.reduceMul, Int.reduceSub, Int.reduceNeg, Int.reduceToNat, hd]⟩, ⟨fun c hc hne => ?_, ?_, ?_⟩⟩
          · rw [St.set_m_ne _ _ hne, hold2 c (by have := hS.n; omega)]
            exact hS.old c hc hne
          · rw [hs1]; simp -implicitDefEqProofs (disch := first | omega | (simp only [St.set_n, St.up_n, List.length_cons, List.length_nil]; omega)) only [go_sem, Nat.reduceAdd, Nat.reduceMul, Nat.reduceSub, Int.reduceAdd, Int.reduceMul, Int.reduceSub, Int.reduceNeg, Int.reduceToNat]
          · have := hS.n
            first | omega | (simp only [St.up_n, St.set_n]; omega)
    · have : k = n := by omega
      subst this
      simp -implicitDefEqProofs (disch := first | omega | (simp only [St.set_n, St.up_n, List.length_cons, List.length_nil]; omega)) only [go_sem, Nat.reduceAdd, Nat.reduceMul, Nat.reduceSub, Int.reduceAdd, Int.reduceMul, Int.reduceSub, Int.reduceNeg, Int.reduceToNat, q0, q5, o2', hlt]
      exact ⟨_, To.refl _ _, ⟨by simp -implicitDefEqProofs (disch := first | omega | (simp only [St.set_n, St.up_n, List.length_cons, List.length_nil]; omega)) only [go_sem, Nat.reduceAdd, Nat.reduceMul, Nat.reduceSub, Int.reduceAdd, Int.reduceMul, Int.reduceSub, Int.reduceNeg, Int.reduceToNat, q0], by simp -implicitDefEqProofs (disch := first | omega | (simp only [St.set_n, St.up_n, List.length_cons, List.length_nil]; omega)) only [go_sem, Nat.reduceAdd, Nat.reduceMul, Nat.reduceSub, Int.reduceAdd, Int.reduceMul, Int.reduceSub, Int.reduceNeg, Int.reduceToNat, q1], by simp -implicitDefEqProofs (disch := first | omega | (simp only [St.set_n, St.up_n, List.length_cons, List.length_nil]; omega)) only [go_sem, Nat.reduceAdd, Nat.reduceMul, Nat.reduceSub, Int.reduceAdd, Int.reduceMul, Int.reduceSub, Int.reduceNeg, Int.reduceToNat, q2], by simp -implicitDefEqProofs (disch := first | omega | (simp only [St.set_n, St.up_n, List.length_cons, List.length_nil]; omega)) only [go_sem, Nat.reduceAdd, Nat.reduceMul, Nat.reduceSub, Int.reduceAdd, Int.reduceMul, Int.reduceSub, Int.reduceNeg, Int.reduceToNat, q3], by simp -implicitDefEqProofs (disch := first | omega | (simp only [St.set_n, St.up_n, List.length_cons, List.length_nil]; omega)) only [go_sem, Nat.reduceAdd, Nat.reduceMul, Nat.reduceSub, Int.reduceAdd, Int.reduceMul, Int.reduceSub, Int.reduceNeg, Int.reduceToNat, q4], by simp -implicitDefEqProofs (disch := first | omega | (simp only [St.set_n, St.up_n, List.length_cons, List.length_nil]; omega)) only [go_sem, Nat.reduceAdd, Nat.reduceMul, Nat.reduceSub, Int.reduceAdd, Int.reduceMul, Int.reduceSub, Int.reduceNeg, Int.reduceToNat, q5], by simp -implicitDefEqProofs (disch := first | omega | (simp only [St.set_n, St.up_n, List.length_cons, List.length_nil]; omega)) only [go_sem, Nat.reduceAdd, Nat.reduceMul, Nat.reduceSub, Int.reduceAdd, Int.reduceMul, Int.reduceSub, Int.reduceNeg, Int.reduceToNat, hd]⟩, hS⟩
  · rintro e s' hws' ⟨⟨q0, q1, q2, q3, q4, q5, hd⟩, hS⟩
    have o3' := (hS.old _ (hws.2 _ _ o3).2 d4).trans o3
    have o4' := (hS.old _ (hws.2 _ _ o4).2 (Ne.symm d1)).trans o4
    have o5' := (hS.old _ (hws.2 _ _ o5).2 d5).trans o5
    refine SemS.wp fun _ => ?_
    simp -implicitDefEqProofs (disch := first | omega | (simp only [St.set_n, St.up_n, List.length_cons, List.length_nil]; omega)) only [go_sem, Nat.reduceAdd, Nat.reduceMul, Nat.reduceSub, Int.reduceAdd, Int.reduceMul, Int.reduceSub, Int.reduceNeg, Int.reduceToNat, q2, q4, o3', o4', o5', htn, hbl, hd]
    refine ⟨_, To.refl _ _, Aft.world he hS.n (fun c y hn hx => ?_) fun c y hy => ?_⟩
    · have n1 : c ≠ q.bbad := fun e => by rw [e, hw.bad] at hn; cases hn
      have n2 : c ≠ q.ws := fun e => by rw [e, hw.wi] at hn; cases hn
      rw [St.set_m_ne _ _ n2, hS.old c (hws.2 _ _ hx).2 n1]; exact hx
    · by_cases e1 : c = q.bbad
      · subst e1
        rw [hw.bad] at hy
        cases hy
        exact ⟨by rw [St.set_m_ne _ _ d1]; exact hS.bad, by rw [hw.bad]; simp⟩
      · by_cases e2 : c = q.ws
        · subst e2
          rw [hw.wi] at hy
          cases hy
          rw [bls_set]
          exact ⟨by simp -implicitDefEqProofs (disch := first | omega | (simp only [St.set_n, St.up_n, List.length_cons, List.length_nil]; omega)) only [go_sem, Nat.reduceAdd, Nat.reduceMul, Nat.reduceSub, Int.reduceAdd, Int.reduceMul, Int.reduceSub, Int.reduceNeg, Int.reduceToNat]; rfl, by rw [hw.wi]; simp⟩
        · rw [enter_off hw e1 e2] at hy
          have h1 := (he.at hy).1
          exact ⟨by rw [St.set_m_ne _ _ e2, hS.old c (hws.2 _ _ h1).2 e1]; exact h1, by rw [hy]; simp⟩
end
end Go.Proofs.Ytdbgeahmhfocaaa
