/- Steps: locks and frees, one behind the other. -/
import Derived.Test.YtdbgeahmhfocaaaGreatLComb
namespace Go.Proofs.YtdbgeahmhfocaaaGreat
set_option linter.unusedSimpArgs false
set_option linter.unusedVariables false
set_option maxRecDepth 100000
open Go Go.RowKit
section
variable {B : World} {L : Lg B} {K : Value → St → Prop} {G : Nat → Prop} {s : St}
/-- A call that changes the world, and leaves the thread's part as it is. -/
def OpOk (L : Lg B) (P : L.U → Prop) (f : FuncId) (args : Array Value) (Q : L.U → Value → Prop) (φ : L.U → L.U) (h : HF) : Prop :=
  ∀ G u s, Env L h G u s → P u → Fn Tryz.prog B f args s fun r s' => Q u r ∧ Aft L (fun _ h' => h' = h) G (φ u) s .nilFunc s'
theorem OpOk.more {P : L.U → Prop} {f : FuncId} {args : Array Value} {Q : L.U → Value → Prop} {φ : L.U → L.U} {h h2 : HF} (ho : OpOk L P f args Q φ h) (hs : ∀ c y, h c = some y → h2 c = some y) : OpOk L P f args Q φ h2 := by
  intro G u s he hp
  have hno : ∀ c, G c → h c = none := fun c hc => by
    cases hx : h c with
    | none => rfl
    | some y => have h3 := he.dis c hc; rw [hs _ _ hx] at h3; cases h3
  have he2 : Env L h (fun c => G c ∨ (h2 c ≠ none ∧ h c = none)) u s := he.weak hs (fun c hc => hc.imp id fun h => h.1) fun c hc => by
    rcases hc with hc | hc
    · exact hno c hc
    · exact hc.2
  refine (ho _ u s he2 hp).mono fun rv s' ⟨hq, n1, k1, h', e1, s1, d1, i1⟩ => ⟨hq, ?_⟩
  subst e1
  refine ⟨n1, fun c y hc hx => k1 c y (.inl hc) hx, h2, rfl, fun c y hc => ?_, he.dis, L.weak i1 fun c hc => ?_⟩
  · cases hx : h' c with
    | none => exact k1 c y (.inr ⟨by rw [hc]; simp, hx⟩) (he.sub _ _ hc)
    | some z =>
      have := hs _ _ hx
      rw [hc] at this; cases this
      exact s1 _ _ hx
  · rcases hc with hc | hc
    · exact .inl (.inl hc)
    · cases hx : h' c with
      | none => exact .inl (.inr ⟨hc, by first | exact hx | rfl⟩)
      | some z => exact .inr (by simp)
/-- A call that only reads. -/
def RdOk (L : Lg B) (f : FuncId) (args : Array Value) (v : Value) (h : HF) : Prop := ∀ G u s, Env L h G u s → Fn Tryz.prog B f args s fun r s' => r = v ∧ s' = s
theorem RdOk.more {f : FuncId} {args : Array Value} {v : Value} {h h2 : HF} (ho : RdOk L f args v h) (hs : ∀ c y, h c = some y → h2 c = some y) : RdOk L f args v h2 := by
  intro G u s he
  have hno : ∀ c, G c → h c = none := fun c hc => by
    cases hx : h c with
    | none => rfl
    | some y => have h3 := he.dis c hc; rw [hs _ _ hx] at h3; cases h3
  exact ho G u s (he.weak hs (fun c hc => .inl hc) hno)
def PtV (v : Value) : Prop := ∃ a, v = .pointer a
theorem PtV.one {v : Value} (h : PtV v) : vc v = #[v] ∧ v.oneCell' = true := by obtain ⟨a, rfl⟩ := h; exact ⟨rfl, rfl⟩
theorem NxOk.one {P : L.U → Prop} {t n : Nat} {ψ : L.U → L.U × List L.A} {nv : Value} {h : HF} (hn : NxOk L P t n ψ nv h) : vc nv = #[nv] ∧ nv.oneCell' = true := by
  rcases hn with ⟨rfl, _⟩ | ⟨_, _, _, rfl, _⟩ <;> exact ⟨rfl, rfl⟩
theorem lock_rep {t n b1 b2 b3 : Nat} {a : L.A} {r : List L.A} {ok : L.U → Bool} {φ : L.U → L.U} {ψ : L.U → L.U × List L.A} {lv nv : Value} {uo : Int} {h : HF}
    (h1 : h b1 = some (.raw (.cells #[lv] 124 (0, 0)))) (h2 : h b2 = some (.raw (.cells #[.int .i64 uo] 3 (0, 0)))) (h3 : h b3 = some (.raw (.cells #[nv] 110 (0, 0))))
    (ht : OpOk L (fun _ => True) 115 #[lv, .int .i64 uo] (fun u r => r = .bool (ok u)) φ h) (hn : NxOk L (fun _ => True) t n ψ nv h)
    (hex : ∀ u, (L.ex t u a).2.2 = ok u ∧ (ok u = false → (L.ex t u a).1 = φ u) ∧ (ok u = true → (L.ex t u a).1 = (ψ (φ u)).1 ∧ (L.ex t u a).2.1 ++ r = (ψ (φ u)).2)) :
    Rep L t (n + 1) (a :: r) (.func (.func 114) #[] #[.pointer (some ⟨b1, 0, none⟩), .pointer (some ⟨b2, 0, none⟩), .pointer (some ⟨b3, 0, none⟩)]) h := by
  refine ⟨_, _, _, rfl, fun G u s he hp => ?_⟩
  obtain ⟨e1, e2, e3⟩ := hex u
  have m1 := he.sub _ _ h1
  have m2 := he.sub _ _ h2
  refine Fn.of is114 (by simp) fun hwf => ?_
  simp only [b114, Tryz.f114, Option.getD_some]
  simp -implicitDefEqProofs (disch := first | omega | (simp only [St.set_n, St.up_n, List.length_cons, List.length_nil]; omega)) only [go_sem, Nat.reduceAdd, Nat.reduceMul, Nat.reduceSub, Int.reduceAdd, Int.reduceMul, Int.reduceSub, Int.reduceNeg, Int.reduceToNat, m1, m2]
  refine callF_wf ((ht G u s he trivial).mono fun v1 s1 ⟨hv1, ha1⟩ hw1 => ?_)
  subst hv1
  obtain ⟨h', rfl, he1⟩ := ha1.env he (fun c hc => .inl hc) hw1
  have m3 := he1.sub _ _ h3
  cases hok : ok u with
  | false =>
    simp -implicitDefEqProofs (disch := first | omega | (simp only [St.set_n, St.up_n, List.length_cons, List.length_nil]; omega)) only [go_sem, Nat.reduceAdd, Nat.reduceMul, Nat.reduceSub, Int.reduceAdd, Int.reduceMul, Int.reduceSub, Int.reduceNeg, Int.reduceToNat]
    rw [hok] at e1
    rw [e1, e2 hok]
    exact ⟨(fun h => by cases h), fun _ => by first | exact ⟨rfl, ha1.mono fun h hh => hh⟩ | exact ha1.mono fun h hh => hh⟩
  | true =>
    simp -implicitDefEqProofs (disch := first | omega | (simp only [St.set_n, St.up_n, List.length_cons, List.length_nil]; omega)) only [go_sem, Nat.reduceAdd, Nat.reduceMul, Nat.reduceSub, Int.reduceAdd, Int.reduceMul, Int.reduceSub, Int.reduceNeg, Int.reduceToNat, m3]
    refine callF_of (then_of hn he1 trivial fun v' s' ha hw => ?_)
    simp -implicitDefEqProofs (disch := first | omega | (simp only [St.set_n, St.up_n, List.length_cons, List.length_nil]; omega)) only [go_sem, Nat.reduceAdd, Nat.reduceMul, Nat.reduceSub, Int.reduceAdd, Int.reduceMul, Int.reduceSub, Int.reduceNeg, Int.reduceToNat]
    rw [hok] at e1
    rw [e1, (e3 hok).1, (e3 hok).2]
    exact ⟨fun _ => ⟨_, rfl, ha1.trans ha⟩, fun h => by cases h⟩
theorem lock_of {t n : Nat} {a : L.A} {r : List L.A} {ok : L.U → Bool} {φ : L.U → L.U} {ψ : L.U → L.U × List L.A} {lv nv : Value} {uo : Int} {h : HF} {u0 : L.U} (hl : PtV lv)
    (ht : OpOk L (fun _ => True) 115 #[lv, .int .i64 uo] (fun u r => r = .bool (ok u)) φ h) (hn : NxOk L (fun _ => True) t n ψ nv h)
    (hex : ∀ u, (L.ex t u a).2.2 = ok u ∧ (ok u = false → (L.ex t u a).1 = φ u) ∧ (ok u = true → (L.ex t u a).1 = (ψ (φ u)).1 ∧ (L.ex t u a).2.1 ++ r = (ψ (φ u)).2))
    (he : Env L h G u0 s) (hK : ∀ v' s', Aft L (Rep L t (n + 1) (a :: r)) G u0 s v' s' → s'.wf B → K v' s') : Fn Tryz.prog B 97 #[lv, .int .i64 uo, nv] s K := by
  refine Fn.of is97 (by simp) fun hwf => ?_
  have hB := hwf.1
  simp only [b97, Tryz.f97, Option.getD_some]
  simp -implicitDefEqProofs (disch := first | omega | (simp only [St.set_n, St.up_n, List.length_cons, List.length_nil]; omega)) only [go_sem, Nat.reduceAdd, Nat.reduceMul, Nat.reduceSub, Int.reduceAdd, Int.reduceMul, Int.reduceSub, Int.reduceNeg, Int.reduceToNat, hl.one.1, hl.one.2, hn.one.1, hn.one.2]
  have key : ∀ s1, s1 = (((s.set s.n (.raw (.cells #[lv] 124 (0, 0)))).set (s.n + 1) (.raw (.cells #[.int .i64 uo] 3 (0, 0)))).set (s.n + 1 + 1) (.raw (.cells #[nv] 110 (0, 0)))).up (s.n + 1 + 1 + 1) →
      (∀ c, c < s.n → s1.m c = s.m c) ∧ s1.wf B ∧ s.n ≤ s1.n ∧ s1.m s.n = some (.raw (.cells #[lv] 124 (0, 0))) ∧ s1.m (s.n + 1) = some (.raw (.cells #[.int .i64 uo] 3 (0, 0))) ∧ s1.m (s.n + 1 + 1) = some (.raw (.cells #[nv] 110 (0, 0))) := by
    rintro s1 rfl
    refine ⟨fun c hc => by simp -implicitDefEqProofs (disch := first | omega | (simp only [St.set_n, St.up_n, List.length_cons, List.length_nil]; omega)) only [go_sem, Nat.reduceAdd, Nat.reduceMul, Nat.reduceSub, Int.reduceAdd, Int.reduceMul, Int.reduceSub, Int.reduceNeg, Int.reduceToNat], ⟨by simp only [St.up_n]; omega, fun c x hx => ?_⟩, by simp only [St.up_n]; omega, by simp -implicitDefEqProofs (disch := first | omega | (simp only [St.set_n, St.up_n, List.length_cons, List.length_nil]; omega)) only [go_sem, Nat.reduceAdd, Nat.reduceMul, Nat.reduceSub, Int.reduceAdd, Int.reduceMul, Int.reduceSub, Int.reduceNeg, Int.reduceToNat], by simp -implicitDefEqProofs (disch := first | omega | (simp only [St.set_n, St.up_n, List.length_cons, List.length_nil]; omega)) only [go_sem, Nat.reduceAdd, Nat.reduceMul, Nat.reduceSub, Int.reduceAdd, Int.reduceMul, Int.reduceSub, Int.reduceNeg, Int.reduceToNat], by simp -implicitDefEqProofs (disch := first | omega | (simp only [St.set_n, St.up_n, List.length_cons, List.length_nil]; omega)) only [go_sem, Nat.reduceAdd, Nat.reduceMul, Nat.reduceSub, Int.reduceAdd, Int.reduceMul, Int.reduceSub, Int.reduceNeg, Int.reduceToNat]⟩
    simp only [St.up_m, St.set, St.up_n] at hx ⊢
    split at hx
    · omega
    · split at hx
      · omega
      · split at hx
        · omega
        · have := hwf.2 _ _ hx; omega
  obtain ⟨hk, hw, hn1, m1, m2, m3⟩ := key _ rfl
  generalize (((s.set s.n (.raw (.cells #[lv] 124 (0, 0)))).set (s.n + 1) (.raw (.cells #[.int .i64 uo] 3 (0, 0)))).set (s.n + 1 + 1) (.raw (.cells #[nv] 110 (0, 0)))).up (s.n + 1 + 1 + 1) = s1 at hk hw m1 m2 m3 hn1 ⊢
  have he1 := he.grow hk hn1 hw
  refine hK _ _ (Aft.since he hk hn1 (he1.done ?_)) hw
  refine lock_rep (lv := lv) (nv := nv) (uo := uo) ?_ ?_ ?_ (ht.more he.gsub) (hn.more he.gsub) hex <;> unfold grow
  · rw [if_pos (by omega)]; exact m1
  · rw [if_pos (by omega)]; exact m2
  · rw [if_pos (by omega)]; exact m3
theorem Env.up {h : HF} {u : L.U} (he : Env L h G u s) {m : Nat} (hm : s.n ≤ m) : Env L h G u (s.up m) :=
  ⟨he.wf.up hm, he.sub, he.dis, fun c hc => by have := he.lt c hc; simp only [St.up_n]; omega, L.stable he.I (fun c y _ hx => hx) (by simp only [St.up_n]; omega)⟩
theorem Aft.up {R : Value → HF → Prop} {u : L.U} {v : Value} {s' : St} (h : Aft L R G u s v s') {m : Nat} (hm : s'.n ≤ m) : Aft L R G u s v (s'.up m) :=
  ⟨Nat.le_trans h.n (by simp only [St.up_n]; omega), h.keep, let ⟨h', a, b, c, d⟩ := h.rep; ⟨h', a, b, c, L.stable d (fun c y _ hx => hx) (by simp only [St.up_n]; omega)⟩⟩
theorem Env.less {h h2 : HF} {u : L.U} (he : Env L h2 G u s) (hs : ∀ c y, h c = some y → h2 c = some y) : Env L h G u s :=
  he.weak hs (fun c hc => .inl hc) fun c hc => by
    cases hx : h c with
    | none => rfl
    | some y => have h3 := he.dis c hc; rw [hs _ _ hx] at h3; cases h3
/-- A slice of numbers that the thread can read. -/
structure OrdV (L : Lg B) (h : HF) (v : Value) (os : List Int) : Prop where
  is : ∃ A cap, v = .slice A os.length cap ∧ os.length ≤ cap ∧ (os ≠ [] → ∃ b o cs ty, A = some ⟨b, o, none⟩ ∧ (∀ G u s, Env L h G u s → s.m b = some (.raw (.cells cs ty (0, 0)))) ∧ ∀ j x, os[j]? = some x → cs[o + j]? = some (.int .i64 x))
theorem OrdV.more {h h2 : HF} {v : Value} {os : List Int} (ho : OrdV L h v os) (hs : ∀ c y, h c = some y → h2 c = some y) : OrdV L h2 v os := by
  obtain ⟨A, cap, rfl, hc, h1⟩ := ho.is
  exact ⟨A, cap, rfl, hc, fun hne => let ⟨b, o, cs, ty, e, hb, hx⟩ := h1 hne; ⟨b, o, cs, ty, e, fun G u s he => hb G u s (he.less hs), hx⟩⟩
theorem OrdV.tail {h : HF} {A : Option Addr} {cap : Nat} {i : Int} {os : List Int} (ho : OrdV L h (.slice A (os.length + 1) cap) (i :: os)) : OrdV L h (.slice (slA A cap 1 1) os.length (cap - 1)) os := by
  obtain ⟨A', cap', e, hc, h1⟩ := ho.is
  cases e
  obtain ⟨b, o, cs, ty, rfl, hb, hx⟩ := h1 (by simp)
  simp only [List.length_cons] at hc
  refine ⟨_, _, rfl, by omega, fun hne => ?_⟩
  have : os.length ≠ 0 := fun e => hne (List.length_eq_zero_iff.1 e)
  rw [slA_mk (by omega)]
  refine ⟨b, o + 1 * 1, cs, ty, rfl, hb, fun j x hj => ?_⟩
  have := hx (j + 1) x (by rw [List.getElem?_cons_succ]; exact hj)
  rw [← this]; congr 1; omega
def LocksP (L : Lg B) (t n : Nat) (al : Int → L.A) (T : List L.A) (ok : Int → L.U → Bool) (φ : Int → L.U → L.U) (lv : Int → Value) (gv nv : Value) (uo : Int) (os : List Int) : Prop :=
  ∀ (h : HF) (G : Nat → Prop) (u : L.U) (s : St) (ov : Value) (K : Value → St → Prop),
    (∀ i ∈ os, RdOk L 51 #[gv, .int .i64 i] (lv i) h) → (∀ i ∈ os, OpOk L (fun _ => True) 115 #[lv i, .int .i64 uo] (fun u r => r = .bool (ok i u)) (φ i) h) →
    (∀ i ∈ os, ∀ u, (L.ex t u (al i)).2.2 = ok i u ∧ (L.ex t u (al i)).1 = φ i u ∧ (ok i u = true → (L.ex t u (al i)).2.1 = [])) →
    OrdV L h ov os → NxOk L (fun _ => True) t n (fun u => (u, T)) nv h → Env L h G u s → (∀ v' s', Aft L (Rep L t (n + os.length) (os.map al ++ T)) G u s v' s' → s'.wf B → K v' s') →
    Fn Tryz.prog B 78 #[gv, ov, .int .i64 uo, nv] s K
set_option maxHeartbeats 1000000 in
theorem locks_step {t n : Nat} {al : Int → L.A} {T : List L.A} {ok : Int → L.U → Bool} {φ : Int → L.U → L.U} {lv : Int → Value} {gv nv : Value} {uo : Int} (hg : PtV gv) (hl : ∀ i, PtV (lv i)) {os : List Int}
    (ih : ∀ i rest, os = i :: rest → LocksP L t n al T ok φ lv gv nv uo rest) : LocksP L t n al T ok φ lv gv nv uo os := by
  intro h G u s ov K ha ht hex ho hn he hK
  obtain ⟨A, cap, rfl, hcap, hA⟩ := ho.is
  refine Fn.of is78 (by simp) fun hwf => ?_
  have hB := hwf.1
  simp only [b78, Tryz.f78, Option.getD_some]
  simp -implicitDefEqProofs (disch := first | omega | (simp only [St.set_n, St.up_n, List.length_cons, List.length_nil]; omega)) only [go_sem, Nat.reduceAdd, Nat.reduceMul, Nat.reduceSub, Int.reduceAdd, Int.reduceMul, Int.reduceSub, Int.reduceNeg, Int.reduceToNat, hg.one.1, hg.one.2, hn.one.1, hn.one.2]
  have key : ∀ s1, s1 = ((((s.set s.n (.raw (.cells #[gv] 78 (0, 0)))).set (s.n + 1) (.raw (.cells #[.slice A os.length cap] 22 (0, 0)))).set (s.n + 1 + 1) (.raw (.cells #[.int .i64 uo] 3 (0, 0)))).set (s.n + 1 + 1 + 1) (.raw (.cells #[nv] 110 (0, 0)))).up (s.n + 1 + 1 + 1 + 1) →
      (∀ c, c < s.n → s1.m c = s.m c) ∧ s1.wf B ∧ s.n ≤ s1.n ∧ s1.m s.n = some (.raw (.cells #[gv] 78 (0, 0))) ∧ s1.m (s.n + 1) = some (.raw (.cells #[.slice A os.length cap] 22 (0, 0))) ∧ s1.m (s.n + 1 + 1) = some (.raw (.cells #[.int .i64 uo] 3 (0, 0))) ∧ s1.m (s.n + 1 + 1 + 1) = some (.raw (.cells #[nv] 110 (0, 0))) := by
    rintro s1 rfl
    refine ⟨fun c hc => by simp -implicitDefEqProofs (disch := first | omega | (simp only [St.set_n, St.up_n, List.length_cons, List.length_nil]; omega)) only [go_sem, Nat.reduceAdd, Nat.reduceMul, Nat.reduceSub, Int.reduceAdd, Int.reduceMul, Int.reduceSub, Int.reduceNeg, Int.reduceToNat], ⟨by simp only [St.up_n]; omega, fun c x hx => ?_⟩, by simp only [St.up_n]; omega, by simp -implicitDefEqProofs (disch := first | omega | (simp only [St.set_n, St.up_n, List.length_cons, List.length_nil]; omega)) only [go_sem, Nat.reduceAdd, Nat.reduceMul, Nat.reduceSub, Int.reduceAdd, Int.reduceMul, Int.reduceSub, Int.reduceNeg, Int.reduceToNat], by simp -implicitDefEqProofs (disch := first | omega | (simp only [St.set_n, St.up_n, List.length_cons, List.length_nil]; omega)) only [go_sem, Nat.reduceAdd, Nat.reduceMul, Nat.reduceSub, Int.reduceAdd, Int.reduceMul, Int.reduceSub, Int.reduceNeg, Int.reduceToNat], by simp -implicitDefEqProofs (disch := first | omega | (simp only [St.set_n, St.up_n, List.length_cons, List.length_nil]; omega)) only [go_sem, Nat.reduceAdd, Nat.reduceMul, Nat.reduceSub, Int.reduceAdd, Int.reduceMul, Int.reduceSub, Int.reduceNeg, Int.reduceToNat], by simp -implicitDefEqProofs (disch := first | omega | (simp only [St.set_n, St.up_n, List.length_cons, List.length_nil]; omega)) only [go_sem, Nat.reduceAdd, Nat.reduceMul, Nat.reduceSub, Int.reduceAdd, Int.reduceMul, Int.reduceSub, Int.reduceNeg, Int.reduceToNat]⟩
    simp only [St.up_m, St.set, St.up_n] at hx ⊢
    split at hx
    · omega
    · split at hx
      · omega
      · split at hx
        · omega
        · split at hx
          · omega
          · have := hwf.2 _ _ hx; omega
  obtain ⟨hk, hw, hn1, m1, m2, m3, m4⟩ := key _ rfl
  by_cases h0 : (os.length : Int) = 0
  · have h0' : os = [] := List.length_eq_zero_iff.1 (by omega)
    simp -implicitDefEqProofs (disch := first | omega | (simp only [St.set_n, St.up_n, List.length_cons, List.length_nil]; omega)) only [go_sem, Nat.reduceAdd, Nat.reduceMul, Nat.reduceSub, Int.reduceAdd, Int.reduceMul, Int.reduceSub, Int.reduceNeg, Int.reduceToNat, h0]
    generalize ((((s.set s.n (.raw (.cells #[gv] 78 (0, 0)))).set (s.n + 1) (.raw (.cells #[.slice A os.length cap] 22 (0, 0)))).set (s.n + 1 + 1) (.raw (.cells #[.int .i64 uo] 3 (0, 0)))).set (s.n + 1 + 1 + 1) (.raw (.cells #[nv] 110 (0, 0)))).up (s.n + 1 + 1 + 1 + 1) = s1 at hk hw m1 m2 m3 m4 hn1 ⊢
    have he1 := he.grow hk hn1 hw
    refine callF_of (then_of (hn.more he.gsub) he1 trivial fun v' s' ha' hw' => ?_)
    simp -implicitDefEqProofs (disch := first | omega | (simp only [St.set_n, St.up_n, List.length_cons, List.length_nil]; omega)) only [go_sem, Nat.reduceAdd, Nat.reduceMul, Nat.reduceSub, Int.reduceAdd, Int.reduceMul, Int.reduceSub, Int.reduceNeg, Int.reduceToNat]
    subst h0'
    exact hK _ _ (Aft.since he hk hn1 ha') hw'
  · simp -implicitDefEqProofs (disch := first | omega | (simp only [St.set_n, St.up_n, List.length_cons, List.length_nil]; omega)) only [go_sem, Nat.reduceAdd, Nat.reduceMul, Nat.reduceSub, Int.reduceAdd, Int.reduceMul, Int.reduceSub, Int.reduceNeg, Int.reduceToNat, h0]
    obtain ⟨i, rest, rfl⟩ : ∃ i rest, os = i :: rest := by
      cases os with
      | nil => exact absurd rfl h0
      | cons i rest => exact ⟨i, rest, rfl⟩
    obtain ⟨b, o, cs, ty, rfl, hb, hx⟩ := hA (by simp)
    have hb0 := hb G u s he
    have mb := hk b (hwf.2 _ _ hb0).2
    rw [hb0] at mb
    have x0 : cs[o]? = some (.int .i64 i) := by have := hx 0 i rfl; simpa using this
    have e8 : (0 : Int) < ((i :: rest).length : Int) := by simp only [List.length_cons]; omega
    simp only [List.length_cons, Int.natCast_add, Int.cast_ofNat_Int] at m2 e8
    have e9 : (1 : Int) ≤ (rest.length : Int) + 1 := by omega
    generalize ((((s.set s.n (.raw (.cells #[gv] 78 (0, 0)))).set (s.n + 1) (.raw (.cells #[.slice (some ⟨b, o, none⟩) (rest.length + 1) cap] 22 (0, 0)))).set (s.n + 1 + 1) (.raw (.cells #[.int .i64 uo] 3 (0, 0)))).set (s.n + 1 + 1 + 1) (.raw (.cells #[nv] 110 (0, 0)))).up (s.n + 1 + 1 + 1 + 1) = s1 at hk hw m1 m2 m3 m4 mb hn1 ⊢
    have he1 := he.grow hk hn1 hw
    simp -implicitDefEqProofs (disch := first | omega | (simp only [St.set_n, St.up_n, List.length_cons, List.length_nil]; omega)) only [go_sem, Nat.reduceAdd, Nat.reduceMul, Nat.reduceSub, Int.reduceAdd, Int.reduceMul, Int.reduceSub, Int.reduceNeg, Int.reduceToNat, m1, m2, m3, mb, x0, e8]
    refine effD_quiet (lv i) (fun m hm => ?_) ?_
    · simp -implicitDefEqProofs (disch := first | omega | (simp only [St.set_n, St.up_n, List.length_cons, List.length_nil]; omega)) only [go_sem, Nat.reduceAdd, Nat.reduceMul, Nat.reduceSub, Int.reduceAdd, Int.reduceMul, Int.reduceSub, Int.reduceNeg, Int.reduceToNat]
      exact ((ha i (by simp)).more he.gsub _ _ _ (he1.up hm)).mono fun r s' ⟨h1, h2⟩ => ⟨h1, m, Nat.le_refl _, h2⟩
    simp -implicitDefEqProofs (disch := first | omega | (simp only [St.set_n, St.up_n, List.length_cons, List.length_nil]; omega)) only [go_sem, Nat.reduceAdd, Nat.reduceMul, Nat.reduceSub, Int.reduceAdd, Int.reduceMul, Int.reduceSub, Int.reduceNeg, Int.reduceToNat, m3]
    refine effD_cut (by kernel_rfl) ?_
    intro jj hjj
    simp -implicitDefEqProofs (disch := first | omega | (simp only [St.set_n, St.up_n, List.length_cons, List.length_nil]; omega)) only [go_sem, Nat.reduceAdd, Nat.reduceMul, Nat.reduceSub, Int.reduceAdd, Int.reduceMul, Int.reduceSub, Int.reduceNeg, Int.reduceToNat]
    have he2 := he1.up hjj
    have hk2 : ∀ c, c < s.n → (s1.up jj).m c = s.m c := hk
    have mm : ∀ c y, s.n ≤ c → s1.m c = some y → grow h s s1 c = some y := fun c y hc hx => by unfold grow; rw [if_pos hc]; exact hx
    refine callF_of (lock_of (t := t) (n := n + rest.length) (a := al i) (r := rest.map al ++ T) (ok := ok i) (φ := φ i) (ψ := fun u => (u, rest.map al ++ T)) (hl i) ((ht i (by simp)).more he.gsub) (.inr ⟨_, _, _, rfl, fun G2 u2 s2 hE _ => ?_⟩) (fun u2 => ?_) he2 fun v' s' ha' hw' => ?_)
    · have o1 := hE.sub _ _ (mm _ _ (Nat.le_refl _) m1)
      have o2 := hE.sub _ _ (mm (s.n + 1) _ (by omega) m2)
      have o3 := hE.sub _ _ (mm (s.n + 1 + 1) _ (by omega) m3)
      have o4 := hE.sub _ _ (mm (s.n + 1 + 1 + 1) _ (by omega) m4)
      refine Fn.of is98 (by simp) fun hwf2 => ?_
      simp only [b98, Tryz.f98, Option.getD_some]
      simp -implicitDefEqProofs (disch := first | omega | (simp only [St.set_n, St.up_n, List.length_cons, List.length_nil]; omega)) only [go_sem, Nat.reduceAdd, Nat.reduceMul, Nat.reduceSub, Int.reduceAdd, Int.reduceMul, Int.reduceSub, Int.reduceNeg, Int.reduceToNat, o1, o2, o3, o4, e9]
      refine effD_cut (by kernel_rfl) ?_
      intro j2 hj2
      simp -implicitDefEqProofs (disch := first | omega | (simp only [St.set_n, St.up_n, List.length_cons, List.length_nil]; omega)) only [go_sem, Nat.reduceAdd, Nat.reduceMul, Nat.reduceSub, Int.reduceAdd, Int.reduceMul, Int.reduceSub, Int.reduceNeg, Int.reduceToNat]
      have hE2 := hE.up hj2
      refine callF_of (ih i rest rfl (grow h s s1) G2 u2 (s2.up j2) _ _ (fun k hk => (ha k (by simp [hk])).more he.gsub) (fun k hk => (ht k (by simp [hk])).more he.gsub) (fun k hk => hex k (by simp [hk])) (ho.tail.more he.gsub) (hn.more he.gsub) hE2 fun v' s' ha' hw' => ?_)
      simp -implicitDefEqProofs (disch := first | omega | (simp only [St.set_n, St.up_n, List.length_cons, List.length_nil]; omega)) only [go_sem, Nat.reduceAdd, Nat.reduceMul, Nat.reduceSub, Int.reduceAdd, Int.reduceMul, Int.reduceSub, Int.reduceNeg, Int.reduceToNat]
      intro j3 hj3
      have hn2 : s2.n ≤ (s2.up j2).n := by simp only [St.up_n]; omega
      exact (Aft.since (s1 := s2.up j2) hE (fun c _ => rfl) hn2 ha').up hj3
    · obtain ⟨x1, x2, x3⟩ := hex i (by simp) u2
      exact ⟨x1, fun _ => x2, fun hok => ⟨x2, by rw [x3 hok]; rfl⟩⟩
    · simp -implicitDefEqProofs (disch := first | omega | (simp only [St.set_n, St.up_n, List.length_cons, List.length_nil]; omega)) only [go_sem, Nat.reduceAdd, Nat.reduceMul, Nat.reduceSub, Int.reduceAdd, Int.reduceMul, Int.reduceSub, Int.reduceNeg, Int.reduceToNat]
      intro j3 hj3
      refine hK _ _ (Aft.up (Aft.since he hk2 (by simp only [St.up_n]; omega) ?_) hj3) (hw'.up hj3)
      have e : n + (i :: rest).length = n + rest.length + 1 := by simp only [List.length_cons]; omega
      rw [e]
      exact ha'
theorem locks_of {t n : Nat} {al : Int → L.A} {T : List L.A} {ok : Int → L.U → Bool} {φ : Int → L.U → L.U} {lv : Int → Value} {gv nv : Value} {uo : Int} (hg : PtV gv) (hl : ∀ i, PtV (lv i)) : ∀ os : List Int, LocksP L t n al T ok φ lv gv nv uo os
  | [] => locks_step hg hl fun i rest h => by cases h
  | i :: os => locks_step hg hl fun j rest h => by
      injection h with _ e2
      subst e2
      exact locks_of hg hl _
end
end Go.Proofs.YtdbgeahmhfocaaaGreat
