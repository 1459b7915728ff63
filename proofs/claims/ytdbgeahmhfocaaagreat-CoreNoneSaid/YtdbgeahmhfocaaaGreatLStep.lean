/- Steps: what a thread still does, and what stands for it in memory. -/
import Derived.Test.YtdbgeahmhfocaaaGreatMachV
namespace Go.Proofs.YtdbgeahmhfocaaaGreat
set_option linter.unusedSimpArgs false
set_option linter.unusedVariables false
set_option maxRecDepth 100000
open Go Go.RowKit
/-- A part of memory. -/
abbrev HF := Nat → Option HP
/-- A world, and what is done in it: an action tells the world behind it, what is done next, and whether it is a move. -/
structure Lg (B : World) where
  U : Type
  A : Type
  ex : Nat → U → A → U × List A × Bool
  pre : Nat → U → A → Prop
  WI : (Nat → Prop) → U → St → Prop
  fresh : ∀ {G F : Nat → Prop} {u s}, WI G u s → (∀ c, F c → s.m c = none ∧ c < s.n) → WI (fun c => G c ∨ F c) u s
  weak : ∀ {G G' : Nat → Prop} {u s}, WI G' u s → (∀ c, G c → G' c) → WI G u s
  stable : ∀ {G u s s'}, WI G u s → (∀ c y, ¬ G c → s.m c = some y → s'.m c = some y) → s.n ≤ s'.n → WI G u s'
section
variable {B : World} (L : Lg B)
structure Env (h : HF) (G : Nat → Prop) (u : L.U) (s : St) : Prop where
  wf : s.wf B
  sub : ∀ c y, h c = some y → s.m c = some y
  dis : ∀ c, G c → h c = none
  lt : ∀ c, G c → c < s.n
  I : L.WI (fun c => G c ∨ h c ≠ none) u s
structure Aft (R : Value → HF → Prop) (G : Nat → Prop) (u : L.U) (s : St) (v : Value) (s' : St) : Prop where
  n : s.n ≤ s'.n
  keep : ∀ c y, G c → s.m c = some y → s'.m c = some y
  rep : ∃ h', R v h' ∧ (∀ c y, h' c = some y → s'.m c = some y) ∧ (∀ c, G c → h' c = none) ∧ L.WI (fun c => G c ∨ h' c ≠ none) u s'
def Rep (t : Nat) : Nat → List L.A → Value → HF → Prop
  | 0, T, v, _ => T = [] ∧ v = .nilFunc
  | n + 1, T, v, h => match T with
    | [] => v = .nilFunc
    | a :: r => ∃ f c1 c2, v = .func (.func f) c1 c2 ∧ ∀ G u s, Env L h G u s → L.pre t u a → Fn Tryz.prog B f (c1 ++ c2) s fun rv s' =>
      ((L.ex t u a).2.2 = true → ∃ v', rv = .tuple #[v', .bool true] ∧ Aft L (Rep t n ((L.ex t u a).2.1 ++ r)) G (L.ex t u a).1 s v' s') ∧
      ((L.ex t u a).2.2 = false → rv = .tuple #[.nilFunc, .bool false] ∧ Aft L (fun _ h' => h' = h) G (L.ex t u a).1 s rv s')
/-- What comes next. -/
def NxOk (P : L.U → Prop) (t n : Nat) (ψ : L.U → L.U × List L.A) (nv : Value) (h : HF) : Prop :=
  (nv = .nilFunc ∧ ∀ u, ψ u = (u, [])) ∨ ∃ f c1 c2, nv = .func (.func f) c1 c2 ∧ ∀ G u s, Env L h G u s → P u → Fn Tryz.prog B f (c1 ++ c2) s fun v' s' => Aft L (Rep L t n (ψ u).2) G (ψ u).1 s v' s'
/-- What is done. -/
def FxOk (P : L.U → Prop) (φ : L.U → L.U) (η : L.U → HF) (fv : Value) (h : HF) : Prop :=
  (fv = .nilFunc ∧ ∀ u, φ u = u ∧ η u = h) ∨ ∃ f c1 c2, fv = .func (.func f) c1 c2 ∧ ∀ G u s, Env L h G u s → P u → Fn Tryz.prog B f (c1 ++ c2) s fun _ s' => Aft L (fun _ h' => h' = η u) G (φ u) s .nilFunc s'
variable {L}
theorem Env.kept {h : HF} {G : Nat → Prop} {u : L.U} {s s' : St} (he : Env L h G u s) (hm : ∀ c, c < s.n → s'.m c = s.m c) (hn : s.n ≤ s'.n) (hw : s'.wf B) : Env L (fun c => if s.n ≤ c then s'.m c else h c) G u s' := by
  refine ⟨hw, fun c y hc => ?_, fun c hc => ?_, fun c hc => Nat.lt_of_lt_of_le (he.lt c hc) hn, ?_⟩
  · split at hc
    · exact hc
    · rw [hm c (by omega)]; exact he.sub c y hc
  · have := he.lt c hc
    rw [if_neg (by omega)]; exact he.dis c hc
  · have hno : ∀ c, s.n ≤ c → s.m c = none := fun c hc => by
      cases hx : s.m c with
      | none => rfl
      | some y => have := (he.wf.2 _ _ hx).2; omega
    have h1 : L.WI (fun c => G c ∨ h c ≠ none) u (s.up s'.n) := L.stable he.I (fun c y _ hx => hx) hn
    have h2 := L.fresh (F := fun c => s.n ≤ c ∧ c < s'.n) h1 fun c hc => ⟨hno c hc.1, hc.2⟩
    have h3 := L.stable (s' := s') h2 (fun c y hc hx => by
      have hx' : s.m c = some y := hx
      rw [hm c (he.wf.2 _ _ hx').2]; exact hx') (Nat.le_refl _)
    refine L.weak h3 fun c hc => ?_
    rcases hc with hc | hc
    · exact .inl (.inl hc)
    · split at hc
      · rename_i h4
        refine .inr ⟨h4, ?_⟩
        cases hx : s'.m c with
        | none => rw [hx] at hc; exact absurd rfl hc
        | some y => exact (hw.2 _ _ hx).2
      · exact .inl (.inr hc)
theorem Env.weak {h h2 : HF} {G G2 : Nat → Prop} {u : L.U} {s : St} (he : Env L h2 G2 u s) (hs : ∀ c y, h c = some y → h2 c = some y) (hg : ∀ c, G c → G2 c ∨ h2 c ≠ none) (hd : ∀ c, G c → h c = none) : Env L h G u s := by
  refine ⟨he.wf, fun c y hc => he.sub c y (hs c y hc), hd, fun c hc => ?_, L.weak he.I fun c hc => ?_⟩
  · rcases hg c hc with h1 | h1
    · exact he.lt c h1
    · cases hx : h2 c with
      | none => exact absurd hx h1
      | some y => exact (he.wf.2 _ _ (he.sub _ _ hx)).2
  · rcases hc with hc | hc
    · exact hg c hc
    · right
      cases hx : h c with
      | none => exact absurd hx hc
      | some y => rw [hs _ _ hx]; simp
theorem Aft.env {R : Value → HF → Prop} {G G0 : Nat → Prop} {u u0 : L.U} {h : HF} {s s' : St} {v : Value} (h1 : Aft L R G u s v s') (h0 : Env L h G0 u0 s) (hG : ∀ c, G c → G0 c ∨ h c ≠ none) (hw : s'.wf B) : ∃ h', R v h' ∧ Env L h' G u s' := by
  obtain ⟨n1, k1, h', r1, s1, d1, i1⟩ := h1
  refine ⟨h', r1, hw, s1, d1, fun c hc => ?_, i1⟩
  rcases hG c hc with h2 | h2
  · have := h0.lt c h2; omega
  · cases hx : h c with
    | none => exact absurd hx h2
    | some y => have := (h0.wf.2 _ _ (h0.sub _ _ hx)).2; omega
theorem Aft.mono {R R' : Value → HF → Prop} {G : Nat → Prop} {u : L.U} {s s' : St} {v v' : Value} (h1 : Aft L R G u s v s') (hr : ∀ h, R v h → R' v' h) : Aft L R' G u s v' s' :=
  ⟨h1.n, h1.keep, let ⟨h', a, b⟩ := h1.rep; ⟨h', hr h' a, b⟩⟩
theorem Aft.trans {R R' : Value → HF → Prop} {G : Nat → Prop} {u u' : L.U} {s s1 s' : St} {v v' : Value} (h0 : Aft L R' G u' s v' s1) (h1 : Aft L R G u s1 v s') : Aft L R G u s v s' :=
  ⟨Nat.le_trans h0.n h1.n, fun c y hc hx => h1.keep c y hc (h0.keep c y hc hx), h1.rep⟩
/-- What was made ahead of it is no matter. -/
theorem Aft.since {R : Value → HF → Prop} {h : HF} {G : Nat → Prop} {u u' : L.U} {s s1 s' : St} {v : Value} (he : Env L h G u' s) (hm : ∀ c, c < s.n → s1.m c = s.m c) (hn : s.n ≤ s1.n) (h1 : Aft L R G u s1 v s') : Aft L R G u s v s' :=
  ⟨Nat.le_trans hn h1.n, fun c y hc hx => h1.keep c y hc (by rw [hm c (he.lt c hc)]; exact hx), h1.rep⟩
theorem Env.done {R : Value → HF → Prop} {h : HF} {G : Nat → Prop} {u : L.U} {s : St} {v : Value} (he : Env L h G u s) (hr : R v h) : Aft L R G u s v s :=
  ⟨Nat.le_refl _, fun c y _ hx => hx, h, hr, he.sub, he.dis, he.I⟩
theorem rep_nil (t : Nat) : ∀ (n : Nat) (h : HF), Rep L t n [] .nilFunc h
  | 0, h => ⟨rfl, rfl⟩
  | n + 1, h => rfl
theorem Rep.nil {t n : Nat} {v : Value} {h : HF} (hr : Rep L t n [] v h) : v = .nilFunc := by
  cases n with
  | zero => exact hr.2
  | succ n => exact hr
theorem Rep.cons {t n : Nat} {a : L.A} {r : List L.A} {v : Value} {h : HF} (hr : Rep L t n (a :: r) v h) : ∃ m, n = m + 1 ∧ ∃ f c1 c2, v = .func (.func f) c1 c2 := by
  cases n with
  | zero => cases hr.1
  | succ n => obtain ⟨f, c1, c2, hv, _⟩ := hr; exact ⟨n, rfl, f, c1, c2, hv⟩
theorem Rep.st {t n : Nat} {T : List L.A} {v : Value} {h : HF} (hr : Rep L t n T v h) : StV v := by
  cases T with
  | nil => exact .inl hr.nil
  | cons a r => obtain ⟨_, _, h1⟩ := hr.cons; exact .inr h1
/-- With more memory it stands as well. -/
theorem Rep.more {t : Nat} : ∀ {n : Nat} {T : List L.A} {v : Value} {h h2 : HF}, Rep L t n T v h → (∀ c y, h c = some y → h2 c = some y) → Rep L t n T v h2
  | 0, _, _, _, _, hr, _ => hr
  | n + 1, [], _, _, _, hr, _ => hr
  | n + 1, a :: r, v, h, h2, hr, hs => by
    obtain ⟨f, c1, c2, hv, hc⟩ := hr
    refine ⟨f, c1, c2, hv, fun G u s he hp => ?_⟩
    have he2 : Env L h (fun c => G c ∨ (h2 c ≠ none ∧ h c = none)) u s := he.weak hs (fun c hc => hc.imp id fun h => h.1) fun c hc => by
      rcases hc with hc | hc
      · cases hx : h c with
        | none => rfl
        | some y => have h3 := he.dis c hc; rw [hs _ _ hx] at h3; cases h3
      · exact hc.2
    refine (hc _ u s he2 hp).mono fun rv s' ⟨h1, h3⟩ => ⟨fun ho => ?_, fun ho => ?_⟩
    · obtain ⟨v', e1, n1, k1, h', r1, s1, d1, i1⟩ := h1 ho
      exact ⟨v', e1, n1, fun c y hc hx => k1 c y (.inl hc) hx, h', r1, s1, fun c hc => d1 c (.inl hc), L.weak i1 fun c hc => hc.imp .inl id⟩
    · obtain ⟨e1, n1, k1, h', rfl, s1, d1, i1⟩ := h3 ho
      refine ⟨e1, n1, fun c y hc hx => k1 c y (.inl hc) hx, h2, rfl, fun c y hc => ?_, he.dis, L.weak i1 fun c hc => ?_⟩
      · cases hx : h' c with
        | none => exact k1 c y (.inr ⟨by rw [hc]; simp, hx⟩) (he.sub _ _ hc)
        | some z =>
          have := hs _ _ hx
          rw [hc] at this; cases this
          exact s1 _ _ hx
      · rcases hc with hc | hc
        · exact .inl (.inl hc)
        · cases hx : h' c with
          | none => exact .inl (.inr ⟨hc, by first | exact hx | rfl⟩)
          | some z => exact .inr (by simp)
theorem Rep.up {t : Nat} : ∀ {n m : Nat} {T : List L.A} {v : Value} {h : HF}, Rep L t n T v h → n ≤ m → Rep L t m T v h
  | 0, m, T, v, h, hr, _ => by
    obtain ⟨rfl, rfl⟩ := hr
    exact rep_nil t m h
  | n + 1, 0, T, v, h, hr, hm => by omega
  | n + 1, m + 1, [], v, h, hr, hm => hr
  | n + 1, m + 1, a :: r, v, h, hr, hm => by
    obtain ⟨f, c1, c2, hv, hc⟩ := hr
    refine ⟨f, c1, c2, hv, fun G u s he hp => (hc G u s he hp).mono fun rv s' ⟨h1, h3⟩ => ⟨fun ho => ?_, h3⟩⟩
    obtain ⟨v', e1, h4⟩ := h1 ho
    exact ⟨v', e1, h4.mono fun h hr => Rep.up hr (by omega)⟩
theorem NxOk.more {P : L.U → Prop} {t n : Nat} {ψ : L.U → L.U × List L.A} {nv : Value} {h h2 : HF} (hn : NxOk L P t n ψ nv h) (hs : ∀ c y, h c = some y → h2 c = some y) : NxOk L P t n ψ nv h2 := by
  rcases hn with hn | ⟨f, c1, c2, hv, hc⟩
  · exact .inl hn
  · refine .inr ⟨f, c1, c2, hv, fun G u s he hp => ?_⟩
    have he2 : Env L h G u s := he.weak hs (fun c hc => .inl hc) fun c hc => by
      cases hx : h c with
      | none => rfl
      | some y => have h3 := he.dis c hc; rw [hs _ _ hx] at h3; cases h3
    exact hc _ u s he2 hp
/-! ### The system -/
def updL {α : Type} (ps : Nat → α) (t : Nat) (T : α) : Nat → α := fun j => if j = t then T else ps j
def lgTr (x : L.U × (Nat → List L.A)) (t : Nat) : (L.U × (Nat → List L.A)) × Bool :=
  match x.2 t with
  | [] => (x, true)
  | a :: r => (((L.ex t x.1 a).1, if (L.ex t x.1 a).2.2 then updL x.2 t ((L.ex t x.1 a).2.1 ++ r) else x.2), (L.ex t x.1 a).2.2)
structure LgI (L : Lg B) (n : Nat) (G : Nat → Prop) (x : L.U × (Nat → List L.A)) (vs : List Value) (s : St) : Prop where
  len : vs.length = n
  lt : ∀ c, G c → c < s.n
  hs : ∃ hs : Nat → HF, (∀ t c y, hs t c = some y → s.m c = some y) ∧ (∀ t c, G c → hs t c = none) ∧ (∀ t t' c, t ≠ t' → hs t c ≠ none → hs t' c = none) ∧
    L.WI (fun c => G c ∨ ∃ t, hs t c ≠ none) x.1 s ∧ ∀ t v, vs[t]? = some v → ∃ k, Rep L t k (x.2 t) v (hs t)
theorem LgI.val {n : Nat} {G : Nat → Prop} {x : L.U × (Nat → List L.A)} {vs : List Value} {s : St} (h : LgI L n G x vs s) {t : Nat} {v : Value} (hv : vs[t]? = some v) : (x.2 t = [] ∧ v = .nilFunc) ∨ (x.2 t ≠ [] ∧ ∃ f c1 c2, v = .func (.func f) c1 c2) := by
  obtain ⟨hs, _, _, _, _, h5⟩ := h.hs
  obtain ⟨k, hr⟩ := h5 t v hv
  cases hT : x.2 t with
  | nil => rw [hT] at hr; exact .inl ⟨rfl, hr.nil⟩
  | cons a r => rw [hT] at hr; obtain ⟨_, _, h1⟩ := hr.cons; exact .inr ⟨by simp, h1⟩
theorem LgI.fresh {n : Nat} {G : Nat → Prop} {x : L.U × (Nat → List L.A)} {vs : List Value} {s : St} {q : Nat} (h : LgI L n G x vs s) (hq : s.m q = none) (hqn : q < s.n) : LgI L n (fun c => G c ∨ c = q) x vs s := by
  obtain ⟨hs, h1, h2, h3, h4, h5⟩ := h.hs
  refine ⟨h.len, fun c hc => hc.elim (h.lt c) (fun e => e ▸ hqn), hs, h1, fun t c hc => ?_, h3, ?_, h5⟩
  · rcases hc with hc | rfl
    · exact h2 t c hc
    · cases hx : hs t c with
      | none => rfl
      | some y => have := h1 _ _ _ hx; rw [hq] at this; cases this
  · refine L.weak (L.fresh (F := fun c => c = q) h4 fun c hc => hc ▸ ⟨hq, hqn⟩) fun c hc => ?_
    rcases hc with (hc | hc) | hc
    · exact .inl (.inl hc)
    · exact .inr hc
    · exact .inl (.inr hc)
theorem LgI.weak {n : Nat} {G G' : Nat → Prop} {x : L.U × (Nat → List L.A)} {vs : List Value} {s : St} (h : LgI L n G' x vs s) (hG : ∀ c, G c → G' c) : LgI L n G x vs s := by
  obtain ⟨hs, h1, h2, h3, h4, h5⟩ := h.hs
  exact ⟨h.len, fun c hc => h.lt c (hG c hc), hs, h1, fun t c hc => h2 t c (hG c hc), h3, L.weak h4 fun c hc => hc.imp (hG c) id, h5⟩
theorem LgI.stable {n : Nat} {G : Nat → Prop} {x : L.U × (Nat → List L.A)} {vs : List Value} {s s' : St} (h : LgI L n G x vs s) (hk : ∀ c y, ¬ G c → s.m c = some y → s'.m c = some y) (hn : s.n ≤ s'.n) : LgI L n G x vs s' := by
  obtain ⟨hs, h1, h2, h3, h4, h5⟩ := h.hs
  refine ⟨h.len, fun c hc => Nat.lt_of_lt_of_le (h.lt c hc) hn, hs, fun t c y hx => hk c y (fun hg => ?_) (h1 t c y hx), h2, h3, L.stable h4 (fun c y hc hx => hk c y (fun hg => hc (.inl hg)) hx) hn, h5⟩
  have := h2 t c hg; rw [hx] at this; cases this
def lgSys (L : Lg B) (n : Nat) (Gd : L.U × (Nat → List L.A) → Prop) (hpre : ∀ x t a r, Gd x → t < n → x.2 t = a :: r → L.pre t x.1 a) (hstep : ∀ x t, Gd x → t < n → x.2 t ≠ [] → Gd (lgTr (L := L) x t).1) : Sys B where
  X := L.U × (Nat → List L.A)
  n := n
  live := fun x t => !(x.2 t).isEmpty
  tr := lgTr
  Inv := fun G x vs s => LgI L n G x vs s ∧ Gd x
  len := fun h => h.1.len
  val := by
    intro G x vs s t v h hv
    rcases h.1.val hv with ⟨h1, h2⟩ | ⟨h1, h2⟩
    · exact .inl ⟨by rw [h1]; rfl, h2⟩
    · refine .inr ⟨?_, h2⟩
      cases hT : x.2 t with
      | nil => exact absurd hT h1
      | cons a r => rfl
  fresh := fun h hq hqn => ⟨h.1.fresh hq hqn, h.2⟩
  weak := fun h hG => ⟨h.1.weak hG, h.2⟩
  stable := fun h hk hn => ⟨h.1.stable hk hn, h.2⟩
  step := by
    intro G x vs s t f c1 c2 hws hI hlv hv
    obtain ⟨h, hgd⟩ := hI
    have htn : t < n := by have := (List.getElem?_eq_some_iff.1 hv).1; rw [h.len] at this; exact this
    obtain ⟨hs, h1, h2, h3, h4, h5⟩ := h.hs
    obtain ⟨k, hr⟩ := h5 t _ hv
    cases hT : x.2 t with
    | nil => rw [hT] at hlv; cases hlv
    | cons a r =>
      rw [hT] at hr
      obtain ⟨k', rfl, _⟩ := hr.cons
      obtain ⟨f', c1', c2', hf, hc⟩ := hr
      injection hf with e1 e2 e3
      injection e1 with e1
      subst e1 e2 e3
      have he : Env L (hs t) (fun c => G c ∨ ∃ j, j ≠ t ∧ hs j c ≠ none) x.1 s := by
        refine ⟨hws, h1 t, fun c hc => ?_, fun c hc => ?_, L.weak h4 fun c hc => ?_⟩
        · rcases hc with hc | ⟨j, hj, hc⟩
          · exact h2 t c hc
          · exact h3 j t c hj hc
        · rcases hc with hc | ⟨j, hj, hc⟩
          · exact h.lt c hc
          · cases hx : hs j c with
            | none => exact absurd hx hc
            | some y => exact (hws.2 _ _ (h1 _ _ _ hx)).2
        · rcases hc with (hc | ⟨j, hj, hc⟩) | hc
          · exact .inl hc
          · exact .inr ⟨j, hc⟩
          · exact .inr ⟨t, hc⟩
      have hgd' := hstep x t hgd htn (by rw [hT]; simp)
      refine (hc _ _ s he (hpre x t a r hgd htn hT)).mono fun rv s' ⟨hy, hn⟩ => ?_
      have htr : lgTr x t = (((L.ex t x.1 a).1, if (L.ex t x.1 a).2.2 then updL x.2 t ((L.ex t x.1 a).2.1 ++ r) else x.2), (L.ex t x.1 a).2.2) := by
        unfold lgTr; rw [hT]
      rw [htr] at hgd' ⊢
      cases hok : (L.ex t x.1 a).2.2 with
      | true =>
        obtain ⟨v', rfl, n1, k1, h', r1, s1, d1, i1⟩ := hy hok
        have htl : t < vs.length := (List.getElem?_eq_some_iff.1 hv).1
        simp only [hok, if_true] at hgd' ⊢
        refine ⟨v', rfl, r1.st, ⟨⟨by rw [List.length_set]; exact h.len, fun c hc => Nat.lt_of_lt_of_le (h.lt c hc) n1, fun j => if j = t then h' else hs j, fun j c y hx => ?_, fun j c hc => ?_, fun j j' c hj hx => ?_, L.weak i1 fun c hc => ?_, fun j v hj => ?_⟩, hgd'⟩, n1, fun c y hc hx => k1 c y (.inl hc) hx⟩
        · simp only at hx
          split at hx
          · exact s1 _ _ hx
          · rename_i hjt
            exact k1 c y (.inr ⟨j, hjt, by rw [hx]; simp⟩) (h1 _ _ _ hx)
        · show (if j = t then h' else hs j) c = none
          split
          · exact d1 c (.inl hc)
          · exact h2 j c hc
        · simp only at hx ⊢
          split at hx
          · rename_i e; subst e
            rw [if_neg (fun e => hj e.symm)]
            cases hx2 : hs j' c with
            | none => rfl
            | some y => exact absurd (d1 c (.inr ⟨j', fun e => hj e.symm, by rw [hx2]; simp⟩)) hx
          · rename_i hjt
            split
            · exact d1 c (.inr ⟨j, hjt, hx⟩)
            · exact h3 j j' c hj hx
        · rcases hc with hc | ⟨j, hc⟩
          · exact .inl (.inl hc)
          · simp only at hc
            split at hc
            · exact .inr hc
            · rename_i hjt; exact .inl (.inr ⟨j, hjt, hc⟩)
        · by_cases e : j = t
          · subst e
            rw [List.getElem?_set_self htl] at hj
            cases hj
            refine ⟨k', ?_⟩
            simp only [updL, if_true]; exact r1
          · rw [List.getElem?_set_ne (fun e' => e e'.symm)] at hj
            obtain ⟨k2, hk2⟩ := h5 j v hj
            refine ⟨k2, ?_⟩
            simp only [updL, if_neg e]; exact hk2
      | false =>
        obtain ⟨rfl, n1, k1, h', rfl, s1, d1, i1⟩ := hn hok
        simp only [hok, Bool.false_eq_true, if_false] at hgd' ⊢
        refine ⟨_, rfl, .inl rfl, ⟨⟨h.len, fun c hc => Nat.lt_of_lt_of_le (h.lt c hc) n1, hs, fun j c y hx => ?_, h2, h3, L.weak i1 fun c hc => ?_, h5⟩, hgd'⟩, n1, fun c y hc hx => k1 c y (.inl hc) hx⟩
        · by_cases e : j = t
          · subst e; exact s1 _ _ hx
          · exact k1 c y (.inr ⟨j, e, by rw [hx]; simp⟩) (h1 _ _ _ hx)
        · rcases hc with hc | ⟨j, hc⟩
          · exact .inl (.inl hc)
          · by_cases e : j = t
            · subst e; exact .inr (by assumption)
            · exact .inl (.inr ⟨j, e, hc⟩)
end
end Go.Proofs.YtdbgeahmhfocaaaGreat
