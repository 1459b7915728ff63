/- A world grows by what a new thread has. -/
import Derived.Test.YtdbgeahmhfocaaaExD
namespace Go.Proofs.Ytdbgeahmhfocaaa
set_option linter.unusedSimpArgs false
set_option linter.unusedVariables false
set_option maxRecDepth 100000
open Go Go.RowKit
section
variable {B : World} {U A : Type} {ex : Nat → U → A → U × List A × Bool} {H H' N : U → HF}
def orH (N H : U → HF) : U → HF := fun u c => match N u c with | some y => some y | none => H u c
theorem orH_some {u : U} {c : Nat} {y : HP} (h : N u c = some y) : orH N H u c = some y := by unfold orH; rw [h]
theorem orH_none {u : U} {c : Nat} (h : N u c = none) : orH N H u c = H u c := by unfold orH; rw [h]
theorem Rep.extN (hq : ∀ u c, N u c ≠ none → H u c = none) {t : Nat} (hy : ∀ u a, N (ex t u a).1 = N u) : ∀ {n : Nat} {T : List A} {v : Value} {h : HF}, Rep (hLg (B := B) U A ex H) t n T v h → Rep (hLg (B := B) U A ex (orH N H)) t n T v h
  | 0, _, _, _, hr => hr
  | n + 1, [], _, _, hr => hr
  | n + 1, a :: r, v, h, hr => by
    obtain ⟨f, c1, c2, hv, hc⟩ := hr
    refine ⟨f, c1, c2, hv, fun G (u : U) s he => ?_⟩
    have hat : ∀ c, N u c ≠ none → ∃ y, N u c = some y ∧ s.m c = some y ∧ ¬ G c ∧ h c = none := fun c hc => by
      cases hx : N u c with
      | none => exact absurd hx hc
      | some y => exact ⟨y, rfl, he.at (orH_some hx)⟩
    have he2 : Env (hLg (B := B) U A ex H) h (fun c => G c ∨ N u c ≠ none) u s := by
      refine ⟨he.wf, he.sub, fun c hc => ?_, fun c hc => ?_, fun c z hz => ?_⟩
      · rcases hc with hc | hc
        · exact he.dis c hc
        · obtain ⟨_, _, _, _, h1⟩ := hat c hc; exact h1
      · rcases hc with hc | hc
        · exact he.lt c hc
        · obtain ⟨_, _, h1, _⟩ := hat c hc; exact (he.wf.2 _ _ h1).2
      · have hcq : N u c = none := by
          cases hx : N u c with
          | none => rfl
          | some y => have := hq u c (by rw [hx]; simp); rw [hz] at this; cases this
        obtain ⟨b1, b2, b3⟩ := he.at ((orH_none hcq).trans hz)
        refine ⟨b1, fun hc => ?_⟩
        rcases hc with (hc | hc) | hc
        · exact b2 hc
        · exact hc hcq
        · exact hc b3
    have post : ∀ (R : Value → HF → Prop) (u' : U) v' s', N u' = N u → Aft (hLg (B := B) U A ex H) R (fun c => G c ∨ N u c ≠ none) u' s v' s' → Aft (hLg (B := B) U A ex (orH N H)) R G u' s v' s' := by
      rintro R u' v' s' hN ⟨n1, k1, h', r1, s1, d1, i1⟩
      refine ⟨n1, fun c z hc hx => k1 c z (.inl hc) hx, h', r1, s1, fun c hc => d1 c (.inl hc), fun c z hz => ?_⟩
      cases hx : N u c with
      | some y =>
        have hne : N u c ≠ none := by rw [hx]; simp
        obtain ⟨y', e1, e2, e3, e4⟩ := hat c hne
        have hz' := orH_some (H := H) (N := N) (u := u') (by rw [hN]; exact hx)
        rw [hz'] at hz
        cases hz
        rw [hx] at e1
        cases e1
        exact ⟨k1 c _ (.inr hne) e2, fun hc => hc.elim e3 fun hc => hc (d1 c (.inr hne))⟩
      | none =>
        rw [orH_none (by rw [hN]; exact hx)] at hz
        obtain ⟨b1, b2⟩ := i1 c z hz
        exact ⟨b1, fun hc => b2 (hc.imp .inl id)⟩
    refine (hc _ u s he2).mono fun rv s' ⟨h1, h3⟩ => ⟨fun ho => ?_, fun ho => ?_⟩
    · obtain ⟨v', e1, h4⟩ := h1 ho
      exact ⟨v', e1, (post _ _ _ _ (hy u a) h4).mono fun h hr => Rep.extN hq hy hr⟩
    · obtain ⟨e1, h4⟩ := h3 ho
      exact ⟨e1, post _ _ _ _ (hy u a) h4⟩
theorem LgI.extN {k : Nat} {G : Nat → Prop} {x : U × (Nat → List A)} {vs : List Value} {s0 s1 : St} (hI : LgI (hLg (B := B) U A ex H) k G x vs s0) (hq : ∀ u c, N u c ≠ none → H u c = none) (hy : ∀ t, t < k → ∀ u a, N (ex t u a).1 = N u) (hw0 : s0.wf B) (hm : ∀ c, c < s0.n → s1.m c = s0.m c) (hn : s0.n ≤ s1.n)
    (hqn : ∀ c, N x.1 c ≠ none → s0.n ≤ c) (hN : ∀ c y, N x.1 c = some y → s1.m c = some y) : LgI (hLg (B := B) U A ex (orH N H)) k G x vs s1 := by
  obtain ⟨hs, h1, h2, h3, h4, h5⟩ := hI.hs
  have hk : ∀ c z, s0.m c = some z → s1.m c = some z := fun c z hx => by rw [hm c (hw0.2 _ _ hx).2]; exact hx
  refine ⟨hI.len, fun c hc => by have := hI.lt c hc; omega, hs, fun t c z hx => hk _ _ (h1 t c z hx), h2, h3, fun c z hz => ?_, fun t v hv => let ⟨m, hm⟩ := h5 t v hv; ⟨m, hm.extN hq (hy t (by have := (List.getElem?_eq_some_iff.1 hv).1; rw [hI.len] at this; exact this))⟩⟩
  cases hx : N x.1 c with
  | some y =>
    rw [orH_some hx] at hz
    cases hz
    have hc := hqn c (by rw [hx]; simp)
    refine ⟨hN c _ hx, fun hc' => ?_⟩
    rcases hc' with hc' | ⟨t, hc'⟩
    · have := hI.lt c hc'; omega
    · cases hx : hs t c with
      | none => exact hc' hx
      | some w => have := (hw0.2 _ _ (h1 _ _ _ hx)).2; omega
  | none =>
    rw [orH_none hx] at hz
    obtain ⟨b1, b2⟩ := h4 c z hz
    exact ⟨hk _ _ b1, b2⟩
theorem LgI.extN2 {k : Nat} {G : Nat → Prop} {x : U × (Nat → List A)} {vs : List Value} {s0 s1 : St} (hI : LgI (hLg (B := B) U A ex H) k G x vs s0) (hq : ∀ u c, N u c ≠ none → H u c = none) (hy : ∀ t, t < k → ∀ u a, N (ex t u a).1 = N u) (hw0 : s0.wf B) (hm : ∀ c y, s0.m c = some y → s1.m c = some y) (hn : s0.n ≤ s1.n)
    (hqn : ∀ c, N x.1 c ≠ none → s0.n ≤ c) (hN : ∀ c y, N x.1 c = some y → s1.m c = some y) : LgI (hLg (B := B) U A ex (orH N H)) k G x vs s1 := by
  obtain ⟨hs, h1, h2, h3, h4, h5⟩ := hI.hs
  refine ⟨hI.len, fun c hc => by have := hI.lt c hc; omega, hs, fun t c z hx => hm _ _ (h1 t c z hx), h2, h3, fun c z hz => ?_, fun t v hv => let ⟨m, hm⟩ := h5 t v hv; ⟨m, hm.extN hq (hy t (by have := (List.getElem?_eq_some_iff.1 hv).1; rw [hI.len] at this; exact this))⟩⟩
  cases hx : N x.1 c with
  | some y =>
    rw [orH_some hx] at hz
    cases hz
    have hc := hqn c (by rw [hx]; simp)
    refine ⟨hN c _ hx, fun hc' => ?_⟩
    rcases hc' with hc' | ⟨t, hc'⟩
    · have := hI.lt c hc'; omega
    · cases hx : hs t c with
      | none => exact hc' hx
      | some w => have := (hw0.2 _ _ (h1 _ _ _ hx)).2; omega
  | none =>
    rw [orH_none hx] at hz
    obtain ⟨b1, b2⟩ := h4 c z hz
    exact ⟨hm _ _ b1, b2⟩
end
section
variable {B : World} {q : XB} {n : Nat} {ods : Nat → List Int} {th : List (List Int)} {tv : Value} {cb : Nat → Nat} {H : XU → HF} {j bi bo cbj bc br : Nat} {vo : Value} {so : St}
def xN (q : XB) (j bi bo cbj bc br : Nat) (vo : Value) (so : St) (u : XU) : HF := fun c =>
  if c = bi then some (.raw (.cells #[.int .i64 j] 3 (0, 0))) else if c = bo then some (.raw (.cells #[vo] 22 (0, 0))) else if c = cbj then some (.raw (.cells #[.int .i64 (u.cs j).1, .int .i64 (u.cs j).2] 52 (0, 0)))
  else if c = bc then some (.raw (.cells #[.pointer (some ⟨cbj, 0, none⟩)] 30 (0, 0))) else if c = br then some (.raw (.cells #[.func (.func 9) #[] (xCaps q bo bi bc br)] 32 (0, 0))) else if blk vo = some c then so.m c else none
theorem ex_cs {t : Nat} (h : j ≠ t) (u : XU) (a : Act) : (exX n ods t u a).1.cs j = u.cs j := by
  cases a with
  | lk i => show (u.try _ i).cs j = _; unfold XU.try; split <;> rfl
  | fr i => show (u.free _ i).cs j = _; unfold XU.free; split <;> rfl
  | ld => exact updL_ne h
  | cs x => exact updL_ne h
  | ef k =>
    match k with
    | 0 => rfl
    | 1 => rfl
    | k + 2 => rfl
theorem xN_cs {u u' : XU} (h : u'.cs j = u.cs j) : xN q j bi bo cbj bc br vo so u' = xN q j bi bo cbj bc br vo so u := by
  funext c; unfold xN; rw [h]
theorem xN_low {u : XU} {c m : Nat} (h1 : m ≤ bi) (h2 : m ≤ bo) (h3 : m ≤ cbj) (h4 : m ≤ bc) (h5 : m ≤ br) (h6 : ∀ b, blk vo = some b → m ≤ b) (hc : c < m) : xN q j bi bo cbj bc br vo so u c = none := by
  unfold xN
  rw [if_neg (by omega), if_neg (by omega), if_neg (by omega), if_neg (by omega), if_neg (by omega), if_neg fun e => by have := h6 c e; omega]
structure XLow (H : XU → HF) (k m : Nat) : Prop where
  lt : ∀ u c, H u c ≠ none → c < m
  cf : ∀ (u : XU) j x c, k ≤ j → H { u with cs := updL u.cs j x } c = H u c
/-- The world with a thread more. -/
theorem XW.grow {m : Nat} (hw : XW B q n ods th tv cb H) (hl : XLow H j m) (h1 : m ≤ bi) (h2 : m ≤ bo) (h3 : m ≤ cbj) (h4 : m ≤ bc) (h5 : m ≤ br) (h6 : ∀ b, blk vo = some b → m ≤ b) :
    XW B q n ods th tv (updL cb j cbj) (orH (xN q j bi bo cbj bc br vo so) H) := by
  have low : ∀ {u : XU} {c : Nat} {y : HP}, H u c = some y → orH (xN q j bi bo cbj bc br vo so) H u c = some y := fun {u c y} hx => by
    rw [orH_none (xN_low h1 h2 h3 h4 h5 h6 (hl.lt u c (by rw [hx]; simp)))]; exact hx
  have frame : ∀ {u u' : XU} {c : Nat}, u'.cs j = u.cs j → H u' c = H u c → orH (xN q j bi bo cbj bc br vo so) H u' c = orH (xN q j bi bo cbj bc br vo so) H u c := fun {u u' c} e1 e2 => by
    unfold orH; rw [xN_cs e1, e2]
  refine ⟨hw.n8, hw.len, hw.tvr, hw.od, fun u => low (hw.thb u), fun u => low (hw.bad u), fun u x c hc => frame rfl (hw.badf u x c hc), fun u => low (hw.wib u), fun u => low (hw.wi u), fun u x c hc => frame rfl (hw.wif u x c hc), fun u => low (hw.dn u), fun u x c hc => frame rfl (hw.dnf u x c hc),
    fun u => low (hw.gb u), fun u => low (hw.gr u), fun u => low (hw.lk u), fun u l c hc => frame rfl (hw.lf u l c hc), fun u j' x c hc => ?_, hw.d1, hw.d2, hw.d3⟩
  by_cases e : j' = j
  · subst e
    rw [updL_eq] at hc
    have hN : xN q j' bi bo cbj bc br vo so { u with cs := updL u.cs j' x } c = xN q j' bi bo cbj bc br vo so u c := by
      unfold xN
      simp only [if_neg hc]
    unfold orH
    rw [hN, hl.cf u j' x c (Nat.le_refl _)]
  · rw [updL_ne e] at hc
    exact frame (updL_ne (fun e' => e e'.symm)) (hw.cf u j' x c hc)
theorem XLow.grow {m m' : Nat} (hl : XLow H j m) (h1 : bi < m') (h2 : bo < m') (h3 : cbj < m') (h4 : bc < m') (h5 : br < m') (h6 : ∀ b, blk vo = some b → b < m') (hm : m ≤ m') : XLow (orH (xN q j bi bo cbj bc br vo so) H) (j + 1) m' := by
  refine ⟨fun u c hc => ?_, fun u j' x c hj => ?_⟩
  · unfold orH at hc
    split at hc
    · rename_i y hx
      unfold xN at hx
      split at hx
      · omega
      · split at hx
        · omega
        · split at hx
          · omega
          · split at hx
            · omega
            · split at hx
              · omega
              · split at hx
                · rename_i e; exact h6 c e
                · cases hx
    · have := hl.lt u c hc; omega
  · unfold orH
    rw [xN_cs (u := u) (u' := { u with cs := updL u.cs j' x }) (updL_ne (by omega)), hl.cf u j' x c (by omega)]
/-- What the new thread has. -/
theorem XT.grow {m : Nat} (hj : j < n) (hl : XLow H j m) (h1 : m ≤ bi) (h2 : bi < bo) (h3 : bo < cbj) (h4 : cbj < bc) (h5 : bc < br) (h6 : ∀ b, blk vo = some b → bi < b ∧ b < bo) (hO : Own so 3 1 (ints (ods j)) (ods j).length vo) :
    XT B q n ods (updL cb j cbj) (orH (xN q j bi bo cbj bc br vo so) H) j bo bi bc br vo := by
  refine ⟨hj, fun u => orH_some ?_, fun u => orH_some ?_, fun h => OrdV.own hO fun b y hb hy G (u : XU) s' he => (he.at (orH_some ?_)).1, fun u => orH_some ?_, fun u => orH_some ?_, fun u => orH_some ?_⟩
  · unfold xN; rw [if_pos rfl]
  · unfold xN; rw [if_neg (by omega), if_pos rfl]
  · have := h6 b hb
    unfold xN; rw [if_neg (by omega), if_neg (by omega), if_neg (by omega), if_neg (by omega), if_neg (by omega), if_pos hb]; exact hy
  · rw [updL_eq]; unfold xN; rw [if_neg (by omega), if_neg (by omega), if_neg (by omega), if_pos rfl]
  · rw [updL_eq]; unfold xN; rw [if_neg (by omega), if_neg (by omega), if_pos rfl]
  · unfold xN; rw [if_neg (by omega), if_neg (by omega), if_neg (by omega), if_neg (by omega), if_pos rfl]
end
end Go.Proofs.Ytdbgeahmhfocaaa
