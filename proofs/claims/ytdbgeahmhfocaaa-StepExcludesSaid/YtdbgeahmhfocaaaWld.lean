/- Worlds that are parts of memory: locks and cells in them. -/
import Derived.Test.YtdbgeahmhfocaaaOrd21
namespace Go.Proofs.Ytdbgeahmhfocaaa
set_option linter.unusedSimpArgs false
set_option linter.unusedVariables false
set_option maxRecDepth 100000
open Go Go.RowKit
section
variable {B : World}
/-- A world whose memory is told by its state. -/
abbrev hLg (U A : Type) (ex : Nat → U → A → U × List A × Bool) (H : U → HF) : Lg B where
  U := U
  A := A
  ex := ex
  WI := fun G u s => ∀ c y, H u c = some y → s.m c = some y ∧ ¬ G c
  fresh := fun h hF c y hy => ⟨(h c y hy).1, fun hc => by
    rcases hc with hc | hc
    · exact (h c y hy).2 hc
    · have h1 := (hF c hc).1
      rw [(h c y hy).1] at h1; cases h1⟩
  weak := fun h hG c y hy => ⟨(h c y hy).1, fun hc => (h c y hy).2 (hG c hc)⟩
  stable := fun h hk _ c y hy => ⟨hk c y (h c y hy).2 (h c y hy).1, (h c y hy).2⟩
variable {U A : Type} {ex : Nat → U → A → U × List A × Bool} {H : U → HF} {h : HF} {G : Nat → Prop} {s : St}
theorem Env.at {u : U} (he : Env (hLg (B := B) U A ex H) h G u s) {c : Nat} {y : HP} (hy : H u c = some y) : s.m c = some y ∧ ¬ G c ∧ h c = none := by
  obtain ⟨h1, h2⟩ := he.I c y hy
  refine ⟨h1, fun hg => h2 (.inl hg), ?_⟩
  cases hx : h c with
  | none => rfl
  | some z => exact absurd (.inr (by rw [hx]; simp)) h2
theorem Aft.world {u u' : U} {v : Value} {s' : St} (he : Env (hLg (B := B) U A ex H) h G u s) (hn : s.n ≤ s'.n) (hm : ∀ c y, H u c = none → s.m c = some y → s'.m c = some y) (hw : ∀ c y, H u' c = some y → s'.m c = some y ∧ H u c ≠ none) :
    Aft (hLg (B := B) U A ex H) (fun _ h' => h' = h) G u' s v s' := by
  have hno : ∀ c, (G c ∨ h c ≠ none) → H u c = none := fun c hc => by
    cases hx : H u c with
    | none => rfl
    | some y => exact absurd hc (he.I c y hx).2
  refine ⟨hn, fun c y hc hx => hm c y (hno c (.inl hc)) hx, h, rfl, fun c y hc => hm c y (hno c (.inr (by rw [hc]; simp))) (he.sub c y hc), he.dis, fun c y hy => ⟨(hw c y hy).1, fun hc => (hw c y hy).2 (hno c hc)⟩⟩
theorem Aft.one {u u' : U} {v : Value} {b k : Nat} {y' : HP} (he : Env (hLg (B := B) U A ex H) h G u s) (hb : H u b ≠ none) (hk : s.n ≤ k) (hy : H u' b = some y') (hc : ∀ c, c ≠ b → H u' c = H u c) :
    Aft (hLg (B := B) U A ex H) (fun _ h' => h' = h) G u' s v ((s.set b y').up k) := by
  refine Aft.world he (by simp only [St.up_n]; omega) (fun c y hn hx => ?_) fun c y hx => ?_
  · have : c ≠ b := fun e => hb (e ▸ hn)
    simp only [St.up_m]; rw [St.set_m_ne _ _ this]; exact hx
  · by_cases e : c = b
    · subst e
      rw [hy] at hx
      simp only [St.up_m]; rw [St.set_m_same]
      exact ⟨hx, hb⟩
    · rw [hc c e] at hx
      simp only [St.up_m]; rw [St.set_m_ne _ _ e]
      exact ⟨(he.at hx).1, by rw [hx]; simp⟩

/-! ### Locks -/
def lksA (N : Nat) (l : Nat → Lk) : List Lk := (List.range N).map l
theorem lksA_len (N : Nat) (l : Nat → Lk) : (lksA N l).length = N := by simp [lksA]
theorem lksA_get {N i : Nat} {l : Nat → Lk} (hi : i < N) : (lksA N l)[i]? = some (l i) := by simp [lksA, hi]
theorem lksA_set {N i : Nat} {l : Nat → Lk} {x : Lk} : (lksA N l).set i x = lksA N (updL l i x) := by
  apply List.ext_getElem?
  intro j
  by_cases hj : j < N
  · rw [lksA_get hj, List.getElem?_set]
    unfold updL
    by_cases e : i = j
    · subst e; rw [if_pos rfl, if_pos (by rw [lksA_len]; exact hj), if_pos rfl]
    · rw [if_neg e, if_neg (fun e' => e e'.symm), lksA_get hj]
  · rw [List.getElem?_eq_none (by rw [List.length_set, lksA_len]; omega), List.getElem?_eq_none (by rw [lksA_len]; omega)]
structure LkW (U : Type) (H : U → HF) (b N : Nat) where
  get : U → Nat → Lk
  set : U → (Nat → Lk) → U
  hb : ∀ u, H u b = some (.raw (.cells (flat fLk (lksA N (get u))).toArray 54 (0, 0)))
  hs : ∀ u l c, c ≠ b → H (set u l) c = H u c
  gs : ∀ u l, get (set u l) = l
variable {b N : Nat}
def lkPtr (b N : Nat) (i : Int) : Value := if 0 ≤ i ∧ i < N then .pointer (some ⟨b, i.toNat * 3, none⟩) else .pointer none
theorem lkPtr_pt (b N : Nat) (i : Int) : PtV (lkPtr b N i) := by unfold lkPtr; split <;> exact ⟨_, rfl⟩
def tryW (w : LkW U H b N) (uo i : Int) (u : U) : U := if 0 ≤ i ∧ i < N then w.set u (updL (w.get u) i.toNat (tryT (w.get u i.toNat) uo)) else u
def tryO (w : LkW U H b N) (uo i : Int) (u : U) : Bool := decide (0 ≤ i ∧ i < N) && tryB (w.get u i.toNat).1 uo
def freeW (w : LkW U H b N) (uo i : Int) (u : U) : U := if 0 ≤ i ∧ i < N then w.set u (updL (w.get u) i.toNat (freeT (w.get u i.toNat) uo)) else u
theorem Aft.same {u : U} {v : Value} (he : Env (hLg (B := B) U A ex H) h G u s) : Aft (hLg (B := B) U A ex H) (fun _ h' => h' = h) G u s v s :=
  ⟨Nat.le_refl _, fun c y _ hx => hx, h, rfl, he.sub, he.dis, he.I⟩
theorem try_ok (w : LkW U H b N) (uo i : Int) : OpOk (hLg (B := B) U A ex H) 33 #[lkPtr b N i, .int .i64 uo] (fun u r => r = .bool (tryO w uo i u)) (tryW w uo i) h := by
  intro G (u : U) s he
  unfold lkPtr tryO tryW
  by_cases hi : 0 ≤ i ∧ i < N
  · have hg := lksA_get (l := w.get u) (show i.toNat < N by omega)
    obtain ⟨c0, c1, c2⟩ := lk_cells hg
    rw [if_pos hi, if_pos hi]
    refine lock_try (he.at (w.hb u)).1 c0 c1 c2 fun j hj => ⟨by simp [hi], ?_⟩
    unfold leftAs
    rw [tryC_flat hg, lksA_set]
    refine Aft.one he (by rw [w.hb]; simp) hj ?_ fun c hc => w.hs _ _ _ hc
    rw [w.hb, w.gs]
  · rw [if_neg hi, if_neg hi]
    exact lock_try_none ⟨by simp [hi], Aft.same he⟩
theorem free_ok (w : LkW U H b N) (uo i : Int) : OpOk (hLg (B := B) U A ex H) 48 #[lkPtr b N i, .int .i64 uo] (fun _ _ => True) (freeW w uo i) h := by
  intro G (u : U) s he
  unfold lkPtr freeW
  by_cases hi : 0 ≤ i ∧ i < N
  · have hg := lksA_get (l := w.get u) (show i.toNat < N by omega)
    obtain ⟨c0, c1, c2⟩ := lk_cells hg
    rw [if_pos hi, if_pos hi]
    refine lock_free (he.at (w.hb u)).1 c0 c1 fun j hj => ⟨trivial, ?_⟩
    unfold leftAs
    rw [freeC_flat hg, lksA_set]
    refine Aft.one he (by rw [w.hb]; simp) hj ?_ fun c hc => w.hs _ _ _ hc
    rw [w.hb, w.gs]
  · rw [if_neg hi, if_neg hi]
    exact lock_free_none ⟨trivial, Aft.same he⟩
theorem at_ok (w : LkW U H b N) {g : Nat} (hg : ∀ u, H u g = some (.raw (.cells #[.slice (some ⟨b, 0, none⟩) N N] 60 (0, 0)))) (i : Int) : RdOk (hLg (B := B) U A ex H) 25 #[.pointer (some ⟨g, 0, none⟩), .int .i64 i] (lkPtr b N i) h := by
  intro G (u : U) s he
  have hG : IsGroup s g b (lksA N (w.get u)) := .inr ⟨by rw [lksA_len]; exact (he.at (hg u)).1, (he.at (w.hb u)).1⟩
  unfold lkPtr
  by_cases hi : 0 ≤ i ∧ i < N
  · obtain ⟨j, rfl⟩ : ∃ j : Nat, i = j := ⟨i.toNat, by omega⟩
    rw [if_pos hi]
    exact group_at hG (by rw [lksA_len]; omega) ⟨rfl, rfl⟩
  · rw [if_neg hi]
    exact group_at_none hG (by rw [lksA_len]; exact hi) ⟨rfl, rfl⟩

/-! ### Cells -/
structure ClW (U : Type) (H : U → HF) (cb : Nat) where
  get : U → Int × Int
  set : U → Int × Int → U
  hb : ∀ u, H u cb = some (.raw (.cells #[.int .i64 (get u).1, .int .i64 (get u).2] 52 (0, 0)))
  hs : ∀ u x c, c ≠ cb → H (set u x) c = H u c
  gs : ∀ u x, get (set u x) = x
variable {cb : Nat}
def loadW (w : ClW U H cb) (u : U) : U := w.set u ((w.get u).1, IntKind.i64.wrap ((w.get u).2 + 1))
def casW (w : ClW U H cb) (old new : Int) (u : U) : U := w.set u (if (w.get u).1 = old then new else (w.get u).1, IntKind.i64.wrap ((w.get u).2 + 1))
theorem load_ok (w : ClW U H cb) : OpOk (hLg (B := B) U A ex H) 42 #[.pointer (some ⟨cb, 0, none⟩)] (fun u r => r = .int .i64 (w.get u).1) (loadW w) h := by
  intro G (u : U) s he
  refine loadI (c := #[.int .i64 (w.get u).1, .int .i64 (w.get u).2]) (he.at (w.hb u)).1 rfl rfl fun j hj => ⟨rfl, ?_⟩
  unfold leftAs loadW
  refine Aft.one he (by rw [w.hb]; simp) hj ?_ fun c hc => w.hs _ _ _ hc
  rw [w.hb, w.gs]; rfl
theorem cas_ok (w : ClW U H cb) (old new : Int) : OpOk (hLg (B := B) U A ex H) 45 #[.pointer (some ⟨cb, 0, none⟩), .int .i64 old, .int .i64 new] (fun u r => r = .bool (decide ((w.get u).1 = old))) (casW w old new) h := by
  intro G (u : U) s he
  refine casI (c := #[.int .i64 (w.get u).1, .int .i64 (w.get u).2]) (he.at (w.hb u)).1 rfl rfl fun j hj => ⟨rfl, ?_⟩
  unfold leftAs casW
  refine Aft.one he (by rw [w.hb]; simp) hj ?_ fun c hc => w.hs _ _ _ hc
  rw [w.hb, w.gs]
  by_cases e : (w.get u).1 = old
  · simp only [if_pos e]; rfl
  · simp only [if_neg e]; rfl
end
end Go.Proofs.Ytdbgeahmhfocaaa
