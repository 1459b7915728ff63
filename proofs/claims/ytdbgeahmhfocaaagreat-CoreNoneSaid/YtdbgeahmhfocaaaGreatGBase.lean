/- Worlds, systems that grow: the general part. -/
import Derived.Test.YtdbgeahmhfocaaaGreatGroup
import Derived.Test.YtdbgeahmhfocaaaGreatLFree
import Derived.Test.YtdbgeahmhfocaaaGreatLRun
namespace Go.Proofs.YtdbgeahmhfocaaaGreat
set_option linter.unusedSimpArgs false
set_option linter.unusedVariables false
set_option maxRecDepth 100000
open Go Go.RowKit
section
variable {B : World}
/-- A world whose memory is told by its state. -/
abbrev hLg (U A : Type) (ex : Nat → U → A → U × List A × Bool) (pre : Nat → U → A → Prop) (H : U → HF) : Lg B where
  U := U
  A := A
  ex := ex
  pre := pre
  WI := fun G u s => ∀ c y, H u c = some y → s.m c = some y ∧ ¬ G c
  fresh := fun h hF c y hy => ⟨(h c y hy).1, fun hc => by
    rcases hc with hc | hc
    · exact (h c y hy).2 hc
    · have h1 := (hF c hc).1
      rw [(h c y hy).1] at h1; cases h1⟩
  weak := fun h hG c y hy => ⟨(h c y hy).1, fun hc => (h c y hy).2 (hG c hc)⟩
  stable := fun h hk _ c y hy => ⟨hk c y (h c y hy).2 (h c y hy).1, (h c y hy).2⟩
variable {U A : Type} {ex : Nat → U → A → U × List A × Bool} {pre : Nat → U → A → Prop} {H : U → HF} {h : HF} {G : Nat → Prop} {s : St}
theorem Env.at {u : U} (he : Env (hLg (B := B) U A ex pre H) h G u s) {c : Nat} {y : HP} (hy : H u c = some y) : s.m c = some y ∧ ¬ G c ∧ h c = none := by
  obtain ⟨h1, h2⟩ := he.I c y hy
  refine ⟨h1, fun hg => h2 (.inl hg), ?_⟩
  cases hx : h c with
  | none => rfl
  | some z => exact absurd (.inr (by rw [hx]; simp)) h2
theorem Aft.world {u u' : U} {v : Value} {s' : St} (he : Env (hLg (B := B) U A ex pre H) h G u s) (hn : s.n ≤ s'.n) (hm : ∀ c y, H u c = none → s.m c = some y → s'.m c = some y) (hw : ∀ c y, H u' c = some y → s'.m c = some y ∧ H u c ≠ none) :
    Aft (hLg (B := B) U A ex pre H) (fun _ h' => h' = h) G u' s v s' := by
  have hno : ∀ c, (G c ∨ h c ≠ none) → H u c = none := fun c hc => by
    cases hx : H u c with
    | none => rfl
    | some y => exact absurd hc (he.I c y hx).2
  refine ⟨hn, fun c y hc hx => hm c y (hno c (.inl hc)) hx, h, rfl, fun c y hc => hm c y (hno c (.inr (by rw [hc]; simp))) (he.sub c y hc), he.dis, fun c y hy => ⟨(hw c y hy).1, fun hc => (hw c y hy).2 (hno c hc)⟩⟩
theorem Aft.one {u u' : U} {v : Value} {b k : Nat} {y' : HP} (he : Env (hLg (B := B) U A ex pre H) h G u s) (hb : H u b ≠ none) (hk : s.n ≤ k) (hy : H u' b = some y') (hc : ∀ c, c ≠ b → H u' c = H u c) :
    Aft (hLg (B := B) U A ex pre H) (fun _ h' => h' = h) G u' s v ((s.set b y').up k) := by
  refine Aft.world he (by simp only [St.up_n]; omega) (fun c y hn hx => ?_) fun c y hx => ?_
  · have : c ≠ b := fun e => hb (e ▸ hn)
    simp only [St.up_m]; rw [St.set_m_ne _ _ this]; exact hx
  · by_cases e : c = b
    · subst e
      rw [hy] at hx
      simp only [St.up_m]; rw [St.set_m_same]
      exact ⟨hx, hb⟩
    · rw [hc c e] at hx
      simp only [St.up_m]; rw [St.set_m_ne _ _ e]
      exact ⟨(he.at hx).1, by rw [hx]; simp⟩

/-! ### Locks -/
def lksA (N : Nat) (l : Nat → Lk) : List Lk := (List.range N).map l
theorem lksA_len (N : Nat) (l : Nat → Lk) : (lksA N l).length = N := by simp [lksA]
theorem lksA_get {N i : Nat} {l : Nat → Lk} (hi : i < N) : (lksA N l)[i]? = some (l i) := by simp [lksA, hi]
theorem lksA_set {N i : Nat} {l : Nat → Lk} {x : Lk} : (lksA N l).set i x = lksA N (updL l i x) := by
  apply List.ext_getElem?
  intro j
  by_cases hj : j < N
  · rw [lksA_get hj, List.getElem?_set]
    unfold updL
    by_cases e : i = j
    · subst e; rw [if_pos rfl, if_pos (by rw [lksA_len]; exact hj), if_pos rfl]
    · rw [if_neg e, if_neg (fun e' => e e'.symm), lksA_get hj]
  · rw [List.getElem?_eq_none (by rw [List.length_set, lksA_len]; omega), List.getElem?_eq_none (by rw [lksA_len]; omega)]
structure LkW (U : Type) (H : U → HF) (b N : Nat) where
  get : U → Nat → Lk
  set : U → (Nat → Lk) → U
  hb : ∀ u, H u b = some (.raw (.cells (flat fLk (lksA N (get u))).toArray 168 (0, 0)))
  hs : ∀ u l c, c ≠ b → H (set u l) c = H u c
  gs : ∀ u l, get (set u l) = l
variable {b N : Nat}
def lkPtr (b N : Nat) (i : Int) : Value := if 0 ≤ i ∧ i < N then .pointer (some ⟨b, i.toNat * 3, none⟩) else .pointer none
theorem lkPtr_pt (b N : Nat) (i : Int) : PtV (lkPtr b N i) := by unfold lkPtr; split <;> exact ⟨_, rfl⟩
def tryW (w : LkW U H b N) (uo i : Int) (u : U) : U := if 0 ≤ i ∧ i < N then w.set u (updL (w.get u) i.toNat (tryT (w.get u i.toNat) uo)) else u
def tryO (w : LkW U H b N) (uo i : Int) (u : U) : Bool := decide (0 ≤ i ∧ i < N) && tryB (w.get u i.toNat).1 uo
def freeW (w : LkW U H b N) (uo i : Int) (u : U) : U := if 0 ≤ i ∧ i < N then w.set u (updL (w.get u) i.toNat (freeT (w.get u i.toNat) uo)) else u
theorem Aft.same {u : U} {v : Value} (he : Env (hLg (B := B) U A ex pre H) h G u s) : Aft (hLg (B := B) U A ex pre H) (fun _ h' => h' = h) G u s v s :=
  ⟨Nat.le_refl _, fun c y _ hx => hx, h, rfl, he.sub, he.dis, he.I⟩
theorem try_ok {P : U → Prop} (w : LkW U H b N) (uo i : Int) : OpOk (hLg (B := B) U A ex pre H) P 115 #[lkPtr b N i, .int .i64 uo] (fun u r => r = .bool (tryO w uo i u)) (tryW w uo i) h := by
  intro G (u : U) s he _
  unfold lkPtr tryO tryW
  by_cases hi : 0 ≤ i ∧ i < N
  · have hg := lksA_get (l := w.get u) (show i.toNat < N by omega)
    obtain ⟨c0, c1, c2⟩ := lk_cells hg
    rw [if_pos hi, if_pos hi]
    refine lock_try (he.at (w.hb u)).1 c0 c1 c2 fun j hj => ⟨by simp [hi], ?_⟩
    unfold leftAs
    rw [tryC_flat hg, lksA_set]
    refine Aft.one he (by rw [w.hb]; simp) hj ?_ fun c hc => w.hs _ _ _ hc
    rw [w.hb, w.gs]
  · rw [if_neg hi, if_neg hi]
    exact lock_try_none ⟨by simp [hi], Aft.same he⟩
theorem free_ok {P : U → Prop} (w : LkW U H b N) (uo i : Int) : OpOk (hLg (B := B) U A ex pre H) P 100 #[lkPtr b N i, .int .i64 uo] (fun _ _ => True) (freeW w uo i) h := by
  intro G (u : U) s he _
  unfold lkPtr freeW
  by_cases hi : 0 ≤ i ∧ i < N
  · have hg := lksA_get (l := w.get u) (show i.toNat < N by omega)
    obtain ⟨c0, c1, c2⟩ := lk_cells hg
    rw [if_pos hi, if_pos hi]
    refine lock_free (he.at (w.hb u)).1 c0 c1 fun j hj => ⟨trivial, ?_⟩
    unfold leftAs
    rw [freeC_flat hg, lksA_set]
    refine Aft.one he (by rw [w.hb]; simp) hj ?_ fun c hc => w.hs _ _ _ hc
    rw [w.hb, w.gs]
  · rw [if_neg hi, if_neg hi]
    exact lock_free_none ⟨trivial, Aft.same he⟩
theorem at_ok (w : LkW U H b N) {g : Nat} (hg : ∀ u, H u g = some (.raw (.cells #[.slice (some ⟨b, 0, none⟩) N N] 138 (0, 0)))) (i : Int) : RdOk (hLg (B := B) U A ex pre H) 51 #[.pointer (some ⟨g, 0, none⟩), .int .i64 i] (lkPtr b N i) h := by
  intro G (u : U) s he
  have hG : IsGroup s g b (lksA N (w.get u)) := .inr ⟨by rw [lksA_len]; exact (he.at (hg u)).1, (he.at (w.hb u)).1⟩
  unfold lkPtr
  by_cases hi : 0 ≤ i ∧ i < N
  · obtain ⟨j, rfl⟩ : ∃ j : Nat, i = j := ⟨i.toNat, by omega⟩
    rw [if_pos hi]
    exact group_at hG (by rw [lksA_len]; omega) ⟨rfl, rfl⟩
  · rw [if_neg hi]
    exact group_at_none hG (by rw [lksA_len]; exact hi) ⟨rfl, rfl⟩

end
section
variable {B : World} {L : Lg B} {G : Nat → Prop} {s : St}
def noH : HF := fun _ => none
theorem LgI.fork {k : Nat} {x : L.U × (Nat → List L.A)} {vs : List Value} {s0 s1 : St} (hI : LgI L k G x vs s0) (hw0 : s0.wf B) (hm : ∀ c, c < s0.n → s1.m c = s0.m c) (hn : s0.n ≤ s1.n) (hw1 : s1.wf B) :
    ∃ G' : Nat → Prop, (∀ c, G c → G' c) ∧ Env L (grow noH s0 s1) G' x.1 s1 ∧
      ∀ (T : List L.A) (n : Nat) (v : Value) (s2 : St), Aft L (Rep L k n T) G' x.1 s1 v s2 → LgI L (k + 1) G (x.1, updL x.2 k T) (vs ++ [v]) s2 := by
  obtain ⟨hs, h1, h2, h3, h4, h5⟩ := hI.hs
  have hlt : ∀ t c, hs t c ≠ none → c < s0.n := fun t c hc => by
    cases hx : hs t c with
    | none => exact absurd hx hc
    | some y => exact (hw0.2 _ _ (h1 _ _ _ hx)).2
  have he0 : Env L noH (fun c => G c ∨ ∃ t, t < k ∧ hs t c ≠ none) x.1 s0 :=
    ⟨hw0, fun c y hc => (by cases hc), fun c _ => rfl, fun c hc => by
      rcases hc with hc | ⟨t, _, ht⟩
      · exact hI.lt c hc
      · exact hlt t c ht, L.weak h4 fun c hc => by
      rcases hc with (hc | ⟨t, _, ht⟩) | hc
      · exact .inl hc
      · exact .inr ⟨t, ht⟩
      · exact absurd rfl hc⟩
  refine ⟨_, fun c hc => .inl hc, he0.grow hm hn hw1, fun T n v s2 ha => ?_⟩
  obtain ⟨n1, k1, h', r1, s1', d1, i1⟩ := ha
  refine ⟨by simp [hI.len], fun c hc => by have := hI.lt c hc; omega, fun j => if j < k then hs j else if j = k then h' else noH, fun j c y hj => ?_, fun j c hc => ?_, fun j j' c hj hx => ?_, L.weak i1 fun c hc => ?_, fun j v' hj => ?_⟩
  · simp only at hj
    split at hj
    · rename_i hjk
      have hx := h1 j c y hj
      exact k1 c y (.inr ⟨j, hjk, by rw [hj]; simp⟩) (by rw [hm c (hw0.2 _ _ hx).2]; exact hx)
    · split at hj
      · exact s1' c y hj
      · cases hj
  · show (if j < k then hs j else if j = k then h' else noH) c = none
    split
    · exact h2 j c hc
    · split
      · exact d1 c (.inl hc)
      · rfl
  · show (if j' < k then hs j' else if j' = k then h' else noH) c = none
    have hx : (if j < k then hs j else if j = k then h' else noH) c ≠ none := hx
    split at hx
    · rename_i hjk
      split
      · exact h3 j j' c hj hx
      · split
        · exact d1 c (.inr ⟨j, hjk, hx⟩)
        · rfl
    · split at hx
      · rename_i hjk
        split
        · rename_i hjk'
          cases hx2 : hs j' c with
          | none => rfl
          | some y => exact absurd (d1 c (.inr ⟨j', hjk', by rw [hx2]; simp⟩)) hx
        · split
          · omega
          · rfl
      · exact absurd rfl hx
  · rcases hc with hc | ⟨j, hc⟩
    · exact .inl (.inl hc)
    · have hc : (if j < k then hs j else if j = k then h' else noH) c ≠ none := hc
      split at hc
      · rename_i hjk; exact .inl (.inr ⟨j, hjk, hc⟩)
      · split at hc
        · exact .inr hc
        · exact absurd rfl hc
  · have hl := hI.len
    by_cases hjk : j < k
    · rw [List.getElem?_append_left (by omega)] at hj
      obtain ⟨m, hm'⟩ := h5 j v' hj
      refine ⟨m, ?_⟩
      simp only [if_pos hjk, updL, if_neg (show ¬ j = k by omega)]
      exact hm'
    · have hje : j = k := by
        have := (List.getElem?_eq_some_iff.1 hj).1
        simp only [List.length_append, List.length_cons, List.length_nil, hl] at this
        omega
      subst hje
      rw [List.getElem?_append_right (by omega), hl, Nat.sub_self] at hj
      cases hj
      refine ⟨n, ?_⟩
      simp only [if_neg hjk, if_true, updL]
      exact r1
/-! ### A world with one block more that stays as it is -/
section
variable {U A : Type} {ex : Nat → U → A → U × List A × Bool} {pre : Nat → U → A → Prop} {H H' : U → HF} {q : Nat} {y : HP}
theorem Rep.ext (hq : ∀ u, H u q = none) (hH : ∀ u c, H' u c = if c = q then some y else H u c) {t : Nat} : ∀ {n : Nat} {T : List A} {v : Value} {h : HF}, Rep (hLg (B := B) U A ex pre H) t n T v h → Rep (hLg (B := B) U A ex pre H') t n T v h
  | 0, _, _, _, hr => hr
  | n + 1, [], _, _, hr => hr
  | n + 1, a :: r, v, h, hr => by
    obtain ⟨f, c1, c2, hv, hc⟩ := hr
    refine ⟨f, c1, c2, hv, fun G (u : U) s he hp => ?_⟩
    have hHq : H' u q = some y := by rw [hH, if_pos rfl]
    obtain ⟨a1, a2, a3⟩ := he.at hHq
    have he2 : Env (hLg (B := B) U A ex pre H) h (fun c => G c ∨ c = q) u s := by
      refine ⟨he.wf, he.sub, fun c hc => ?_, fun c hc => ?_, fun c z hz => ?_⟩
      · rcases hc with hc | rfl
        · exact he.dis c hc
        · exact a3
      · rcases hc with hc | rfl
        · exact he.lt c hc
        · exact (he.wf.2 _ _ a1).2
      · have hcq : c ≠ q := fun e => by rw [e, hq] at hz; cases hz
        have hz' : H' u c = some z := by rw [hH, if_neg hcq]; exact hz
        obtain ⟨b1, b2, b3⟩ := he.at hz'
        refine ⟨b1, fun hc => ?_⟩
        rcases hc with (hc | hc) | hc
        · exact b2 hc
        · exact hcq hc
        · exact hc b3
    have post : ∀ (R : Value → HF → Prop) (u' : U) v' s', Aft (hLg (B := B) U A ex pre H) R (fun c => G c ∨ c = q) u' s v' s' → Aft (hLg (B := B) U A ex pre H') R G u' s v' s' := by
      rintro R u' v' s' ⟨n1, k1, h', r1, s1, d1, i1⟩
      refine ⟨n1, fun c z hc hx => k1 c z (.inl hc) hx, h', r1, s1, fun c hc => d1 c (.inl hc), fun c z hz => ?_⟩
      rw [hH] at hz
      split at hz
      · rename_i e; subst e
        cases hz
        exact ⟨k1 _ _ (.inr rfl) a1, fun hc => hc.elim a2 fun hc => hc (d1 _ (.inr rfl))⟩
      · obtain ⟨b1, b2⟩ := i1 c z hz
        exact ⟨b1, fun hc => b2 (hc.imp .inl id)⟩
    refine (hc _ u s he2 hp).mono fun rv s' ⟨h1, h3⟩ => ⟨fun ho => ?_, fun ho => ?_⟩
    · obtain ⟨v', e1, h4⟩ := h1 ho
      exact ⟨v', e1, (post _ _ _ _ h4).mono fun h hr => Rep.ext hq hH hr⟩
    · obtain ⟨e1, h4⟩ := h3 ho
      exact ⟨e1, post _ _ _ _ h4⟩
theorem LgI.ext (hq : ∀ u, H u q = none) (hH : ∀ u c, H' u c = if c = q then some y else H u c) {k : Nat} {x : U × (Nat → List A)} {vs : List Value} {s0 s1 : St} (hI : LgI (hLg (B := B) U A ex pre H) k G x vs s0) (hw0 : s0.wf B) (hm : ∀ c, c < s0.n → s1.m c = s0.m c) (hn : s0.n ≤ s1.n)
    (hqn : s0.n ≤ q) (hy : s1.m q = some y) : LgI (hLg (B := B) U A ex pre H') k G x vs s1 := by
  obtain ⟨hs, h1, h2, h3, h4, h5⟩ := hI.hs
  have hk : ∀ c z, s0.m c = some z → s1.m c = some z := fun c z hx => by rw [hm c (hw0.2 _ _ hx).2]; exact hx
  refine ⟨hI.len, fun c hc => by have := hI.lt c hc; omega, hs, fun t c z hx => hk _ _ (h1 t c z hx), h2, h3, fun c z hz => ?_, fun t v hv => let ⟨m, hm⟩ := h5 t v hv; ⟨m, hm.ext hq hH⟩⟩
  rw [hH] at hz
  split at hz
  · rename_i e; subst e
    cases hz
    refine ⟨hy, fun hc => ?_⟩
    rcases hc with hc | ⟨t, hc⟩
    · have := hI.lt c hc; omega
    · cases hx : hs t c with
      | none => exact hc hx
      | some w => have := (hw0.2 _ _ (h1 _ _ _ hx)).2; omega
  · obtain ⟨b1, b2⟩ := h4 c z hz
    exact ⟨hk _ _ b1, b2⟩
end
/-- Something is appended to a slice that is kept. -/
theorem Sys.inv_app {Y : Sys B} {P : Nat → Prop} {x : Y.X} {vs : List Value} {w w' : Value} {s2 s' : St} (hI : Y.Inv (fun c => P c ∨ blk w = some c) x vs s2) (hw : s2.wf B) (heq : ∀ c, c < s2.n → blk w ≠ some c → s'.m c = s2.m c)
    (hb : ∀ b, blk w' = some b → s2.n ≤ b ∨ blk w = some b) (hn : s2.n ≤ s'.n) (hlt : ∀ b, blk w' = some b → b < s'.n) : Y.Inv (fun c => P c ∨ blk w' = some c) x vs s' := by
  have hI2 := Y.stable hI (s' := s2.up s'.n) (fun c y _ hx => hx) hn
  have hno : ∀ c, s2.n ≤ c → s2.m c = none := fun c hc => by
    cases hx : s2.m c with
    | none => rfl
    | some y => have := (hw.2 _ _ hx).2; omega
  cases e : blk w' with
  | none =>
    refine Y.weak (Y.stable hI2 (s' := s') (fun c y hc hx => ?_) (Nat.le_refl _)) fun c hc => hc.elim .inl fun h => (by cases h)
    have hx' : s2.m c = some y := hx
    rw [heq c (hw.2 _ _ hx').2 fun e => hc (.inr e)]; exact hx'
  | some b' =>
    rcases hb b' e with h | h
    · have h3 := Y.fresh hI2 (q := b') (hno b' h) (hlt b' e)
      refine Y.weak (Y.stable h3 (s' := s') (fun c y hc hx => ?_) (Nat.le_refl _)) fun c hc => hc.elim (fun h => .inl (.inl h)) fun h => .inr (Option.some.inj h).symm
      have hx' : s2.m c = some y := hx
      rw [heq c (hw.2 _ _ hx').2 fun e => hc (.inl (.inr e))]; exact hx'
    · refine Y.weak (Y.stable hI2 (s' := s') (fun c y hc hx => ?_) (Nat.le_refl _)) fun c hc => hc.elim .inl fun h' => .inr (h.trans h')
      have hx' : s2.m c = some y := hx
      rw [heq c (hw.2 _ _ hx').2 fun e => hc (.inr e)]; exact hx'
theorem OrdV.own {h : HF} {s : St} {v : Value} {os : List Int} (ho : Own s 3 1 (ints os) os.length v) (hh : ∀ b y, blk v = some b → s.m b = some y → ∀ G u s', Env L h G u s' → s'.m b = some y) : OrdV L h v os := by
  obtain ⟨A, c, rfl, hc⟩ := ho.is
  refine ⟨A, c, rfl, hc, fun hne => ?_⟩
  have hl : 0 < os.length := by cases os with | nil => exact absurd rfl hne | cons a l => simp
  obtain ⟨b, c1, sp, e1, _, m1, _, _⟩ := ho.has hl
  cases e1
  exact ⟨b, 0, _, _, rfl, hh b _ rfl m1, fun j x hj => by rw [Nat.zero_add, List.getElem?_toArray]; exact ints_get hj sp⟩
theorem OrdV.lit {h : HF} {b : Nat} {x : Int} {ty : TypeId} (hb : h b = some (.raw (.cells #[.int .i64 x] ty (0, 0)))) : OrdV L h (.slice (some ⟨b, 0, none⟩) 1 1) [x] := by
  refine ⟨_, 1, rfl, Nat.le_refl _, fun _ => ⟨b, 0, _, ty, rfl, fun _ _ _ he => he.sub _ _ hb, fun j y hj => ?_⟩⟩
  match j, hj with
  | 0, hj => cases hj; rfl
  | j + 1, hj => cases hj
theorem lgI_empty {U A : Type} {ex : Nat → U → A → U × List A × Bool} {pre : Nat → U → A → Prop} {H : U → HF} {u : U} (hlt : ∀ c, G c → c < s.n) (hH : ∀ c y, H u c = some y → s.m c = some y ∧ ¬ G c) : LgI (hLg (B := B) U A ex pre H) 0 G (u, fun _ => []) [] s :=
  ⟨rfl, hlt, fun _ => noH, fun _ c y hc => (by cases hc), fun _ _ _ => rfl, fun _ _ _ _ hc => absurd rfl hc, fun c y hy => ⟨(hH c y hy).1, fun hc => hc.elim (hH c y hy).2 fun ⟨_, ht⟩ => ht rfl⟩, fun t v hv => by simp at hv⟩
end
section
variable {B : World} {σ τ : St} {K : Value → St → Prop}
theorem set_wf1 {s : St} {y : HP} (hwf : s.wf B) : ((s.set s.n y).up (s.n + 1)).wf B := by
  have := hwf.1
  refine ⟨by simp only [St.up_n]; omega, fun c x hx => ?_⟩
  simp only [St.up_m, St.set, St.up_n] at hx ⊢
  split at hx
  · omega
  · have := hwf.2 _ _ hx; omega
theorem gro {h : HF} {s s1 : St} {c : Nat} {y : HP} (hc : s.n ≤ c) (hx : s1.m c = some y) : grow h s s1 c = some y := by unfold grow; rw [if_pos hc]; exact hx
theorem LgI.at {U A : Type} {ex : Nat → U → A → U × List A × Bool} {pre : Nat → U → A → Prop} {H : U → HF} {k : Nat} {G : Nat → Prop} {x : U × (Nat → List A)} {vs : List Value} {s : St} (hI : LgI (hLg (B := B) U A ex pre H) k G x vs s) {c : Nat} {y : HP} (hy : H x.1 c = some y) : s.m c = some y := by
  obtain ⟨hs, h1, h2, h3, h4, h5⟩ := hI.hs
  exact (h4 c y hy).1
theorem LgI.stepV {L : Lg B} {k : Nat} {G : Nat → Prop} {x : L.U × (Nat → List L.A)} {vs : List Value} {s : St} (hI : LgI L k G x vs s) {v : Value} (hv : v ∈ vs) : StV v := by
  obtain ⟨hs, h1, h2, h3, h4, h5⟩ := hI.hs
  obtain ⟨t, ht⟩ := List.getElem?_of_mem hv
  obtain ⟨m, hm⟩ := h5 t v ht
  exact hm.st
theorem slR_nil : SlR B 1 RInt [] (.slice none 0 0) := ⟨none, 0, rfl, Nat.le_refl _, Nat.zero_le _, fun _ => rfl, fun i x h => by simp at h⟩
theorem StV.one {v : Value} (hv : StV v) : vc v = #[v] ∧ v.oneCell' = true := by rcases hv with rfl | ⟨_, _, _, rfl⟩ <;> exact ⟨rfl, rfl⟩
theorem LgI.call {L : Lg B} {k n : Nat} {G : Nat → Prop} {x : L.U × (Nat → List L.A)} {vs : List Value} {s : St} {f : FuncId} {args : Array Value} {T : List L.A} (hI : LgI L k G x vs s) (hw : s.wf B)
    (hc : ∀ (G' : Nat → Prop) (K' : Value → St → Prop), Env L (grow noH s s) G' x.1 s → (∀ v s', Aft L (Rep L k n T) G' x.1 s v s' → s'.wf B → K' v s') → Fn Tryz.prog B f args s K')
    (hK : ∀ v s', LgI L (k + 1) G (x.1, updL x.2 k T) (vs ++ [v]) s' → (∀ c y, G c → s.m c = some y → s'.m c = some y) → s.n ≤ s'.n → s'.wf B → StV v → K v s') : Fn Tryz.prog B f args s K := by
  obtain ⟨G', hG, hE, hfin⟩ := hI.fork hw (fun c _ => rfl) (Nat.le_refl _) hw
  refine hc G' K hE fun v s' ha hw' => ?_
  have h1 := hfin _ _ _ _ ha
  exact hK v s' h1 (fun c y hc hx => ha.keep c y (hG c hc) hx) ha.n hw' (h1.stepV (by simp))
theorem LgI.alloc {L : Lg B} {k : Nat} {G : Nat → Prop} {x : L.U × (Nat → List L.A)} {vs : List Value} {s : St} (hI : LgI L k G x vs s) (hw : s.wf B) (y : HP) : LgI L k (fun c => G c ∨ c = s.n) x vs ((s.set s.n y).up (s.n + 1)) := by
  have hno : s.m s.n = none := by
    cases hx : s.m s.n with
    | none => rfl
    | some y => have := (hw.2 _ _ hx).2; omega
  have h1 := hI.stable (s' := s.up (s.n + 1)) (fun c y _ hx => hx) (by simp only [St.up_n]; omega)
  have h2 := h1.fresh (q := s.n) hno (by simp only [St.up_n]; omega)
  refine h2.stable (fun c z hc hx => ?_) (by simp only [St.up_n, St.set_n]; omega)
  have hne : c ≠ s.n := fun e => hc (.inr e)
  have hx' : s.m c = some z := hx
  simp only [St.up_m]
  rw [St.set_m_ne _ _ hne]; exact hx'
structure OW (σ : St) {U : Type} (H : U → HF) (u : U) (s : St) : Prop where
  w : ∀ c y, H u c = some y → s.m c = some y ∧ ¬ c < σ.n
  old : ∀ c y, σ.m c = some y → s.m c = some y
  n : σ.n ≤ s.n
theorem OW.keep {σ : St} {U : Type} {H : U → HF} {u : U} {s s' : St} (h : OW σ H u s) (hk : ∀ c y, s.m c = some y → s'.m c = some y) (hn : s.n ≤ s'.n) : OW σ H u s' :=
  ⟨fun c y hc => ⟨hk _ _ (h.w c y hc).1, (h.w c y hc).2⟩, fun c y hx => hk _ _ (h.old c y hx), Nat.le_trans h.n hn⟩
theorem OW.lgi {σ : St} {U A : Type} {ex : Nat → U → A → U × List A × Bool} {pre : Nat → U → A → Prop} {H : U → HF} {u : U} {s : St} (h : OW σ H u s) : LgI (hLg (B := B) U A ex pre H) 0 (fun c => c < σ.n) (u, fun _ => []) [] s :=
  lgI_empty (fun c hc => Nat.lt_of_lt_of_le hc h.n) h.w
theorem LgI.ow {σ : St} {U A : Type} {ex : Nat → U → A → U × List A × Bool} {pre : Nat → U → A → Prop} {H : U → HF} {k : Nat} {x : U × (Nat → List A)} {vs : List Value} {s : St} (hI : LgI (hLg (B := B) U A ex pre H) k (fun c => c < σ.n) x vs s) (ho : ∀ c y, σ.m c = some y → s.m c = some y) (hn : σ.n ≤ s.n) : OW σ H x.1 s := by
  obtain ⟨hs, h1, h2, h3, h4, h5⟩ := hI.hs
  exact ⟨fun c y hc => ⟨(h4 c y hc).1, fun hl => (h4 c y hc).2 (.inl hl)⟩, ho, hn⟩
theorem LgI.owE {σ : St} {U A : Type} {ex : Nat → U → A → U × List A × Bool} {pre : Nat → U → A → Prop} {H : U → HF} {k tb : Nat} {x : U × (Nat → List A)} {vs : List Value} {s : St} (hI : LgI (hLg (B := B) U A ex pre H) k (fun c => c < σ.n ∨ c = tb) x vs s) (ho : ∀ c y, σ.m c = some y → s.m c = some y) (hn : σ.n ≤ s.n) (ht : σ.n ≤ tb) (hwf : σ.wf B) (y : HP) : OW σ H x.1 (s.set tb y) := by
  obtain ⟨hs, h1, h2, h3, h4, h5⟩ := hI.hs
  refine ⟨fun c z hc => ⟨?_, fun hl => (h4 c z hc).2 (.inl (.inl hl))⟩, fun c z hx => ?_, hn⟩
  · have hne : c ≠ tb := fun e => (h4 c z hc).2 (.inl (.inr e))
    rw [St.set_m_ne _ _ hne]; exact (h4 c z hc).1
  · have := (hwf.2 _ _ hx).2
    rw [St.set_m_ne _ _ (by omega)]; exact ho c z hx
theorem LgI.keep {L : Lg B} {k : Nat} {G : Nat → Prop} {x : L.U × (Nat → List L.A)} {vs : List Value} {s s' : St} (hI : LgI L k G x vs s) (hk : ∀ c y, s.m c = some y → s'.m c = some y) (hn : s.n ≤ s'.n) : LgI L k G x vs s' :=
  hI.stable (fun c y _ hx => hk c y hx) hn
theorem then_nil {s : St} (hK : K .nilFunc s) : Fn Tryz.prog B 64 #[.nilFunc] s K := by
  refine Fn.of is64 (by simp) fun hwf => ?_
  simp only [b64, Tryz.f64, Option.getD_some]
  simp -implicitDefEqProofs (disch := first | omega | (simp only [St.set_n, St.up_n, List.length_cons, List.length_nil]; omega)) only [go_sem, Nat.reduceAdd, Nat.reduceMul, Nat.reduceSub, Int.reduceAdd, Int.reduceMul, Int.reduceSub, Int.reduceNeg, Int.reduceToNat]
  exact hK
theorem two_one {v0 v1 : Value} (h0 : StV v0) (h1 : StV v1) : ∀ v ∈ [v0, v1], v.cells = #[v] := by
  intro v hv
  simp only [List.mem_cons, List.not_mem_nil, or_false] at hv
  rcases hv with rfl | rfl
  · exact h0.one.1
  · exact h1.one.1
end
section
variable {P : Program} {B : World} {σ τ : St}
theorem fill_ones {z : Value} (hz : z.cells = #[z]) (n : Nat) : ∀ (vs : List Value) (i : Nat) (c : Array Value), (∀ v ∈ vs, v.cells = #[v]) → i + vs.length ≤ c.size →
    Instr.fill (fun i => some (i * 1, 1)) c (vs.zipIdx i |>.map fun p => (p.2, p.1)) = some (wrl c i vs)
  | [], i, c, _, _ => rfl
  | v :: vs, i, c, hv, hl => by
    have h1 := hv v (by simp)
    simp only [List.length_cons] at hl
    simp only [List.zipIdx_cons, List.map_cons]
    show fl _ _ _ = _
    rw [fill_cons, fillK_some]
    have hvc : vc v = #[v] := h1
    rw [if_neg (by rw [hvc]; simp; omega), hvc]
    simp only [Nat.mul_one]
    have := fill_ones hz n vs (i + 1) (c.setIfInBounds i v) (fun u hu => hv u (by simp [hu])) (by simp; omega)
    simp only [Nat.mul_one] at this
    exact this
/-- A literal slice of values of one cell each. -/
theorem bslK_ones {t el : TypeId} {b n : Nat} {z : Value} {vs : List Value} {parts : List (Nat × Value)} {d : Option Tmp} {K : Fr → St → Prop} {e : Fr} (hse : se P t = some (el, 1, b)) (hz : zr P el = some z) (hz1 : z.cells = #[z]) (hv : ∀ v ∈ vs, v.cells = #[v]) (hn : vs.length = n) (hp : parts = (vs.zipIdx 0 |>.map fun p => (p.2, p.1))) (h24 : n ≤ 1000)
    (h : K (e.put d (.slice (some ⟨σ.n, 0, none⟩) n n)) ((σ.set σ.n (.raw (.cells vs.toArray el (0, 0)))).up (σ.n + 1))) : bslK P t n parts d K e σ := by
  unfold bslK bsl bindK
  have hsz : (zcells z.cells (n * 1)).size = n := by simp [zcells]
  refine ⟨_, hse, z, hz, by omega, vs.toArray, ?_, h⟩
  rw [hp, fill_ones hz1 n vs 0 _ hv (by omega), wrl_all _ _ (by omega)]
end
section
variable {B : World} {L : Lg B} {K : Value → St → Prop} {G : Nat → Prop} {s : St}
def putH (h : HF) (b : Nat) (y : HP) : HF := fun c => if c = b then some y else h c
theorem putH_ne {h : HF} {b c : Nat} {y : HP} (hc : c ≠ b) : putH h b y c = h c := by unfold putH; rw [if_neg hc]
theorem putH_eq {h : HF} {b : Nat} {y : HP} : putH h b y b = some y := by unfold putH; rw [if_pos rfl]
theorem Aft.put {h : HF} {u : L.U} {v : Value} {s' : St} (ha : Aft L (fun _ h' => h' = h) G u s v s') {b : Nat} (hb : h b ≠ none) (y : HP) : Aft L (fun _ h' => h' = putH h b y) G u s v (s'.set b y) := by
  obtain ⟨n1, k1, h', e1, s1, d1, i1⟩ := ha
  subst e1
  have hG : ¬ G b := fun hg => hb (d1 b hg)
  refine ⟨by simp only [St.set_n]; exact n1, fun c x hc hx => ?_, _, rfl, fun c x hc => ?_, fun c hc => ?_, ?_⟩
  · have hne : c ≠ b := fun e => hG (by rw [← e]; exact hc)
    rw [St.set_m_ne _ _ hne]; exact k1 c x hc hx
  · by_cases e : c = b
    · subst e; rw [putH_eq] at hc; cases hc; exact St.set_m_same _ _ _
    · rw [putH_ne e] at hc; rw [St.set_m_ne _ _ e]; exact s1 c x hc
  · have hne : c ≠ b := fun e => hG (by rw [← e]; exact hc)
    rw [putH_ne hne]; exact d1 c hc
  · refine L.weak (L.stable (s' := s'.set b y) i1 (fun c x hc hx => ?_) (by simp only [St.set_n]; omega)) fun c hc => ?_
    · have hne : c ≠ b := fun e => hc (.inr (by rw [e]; exact hb))
      rw [St.set_m_ne _ _ hne]; exact hx
    · rcases hc with hc | hc
      · exact .inl hc
      · by_cases e : c = b
        · subst e; exact .inr hb
        · rw [putH_ne e] at hc; exact .inr hc
end
end Go.Proofs.YtdbgeahmhfocaaaGreat
