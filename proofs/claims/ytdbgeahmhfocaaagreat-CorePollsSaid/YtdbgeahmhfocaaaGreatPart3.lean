/- The texts of this proof, part 3: the engine, the walks and the plain laws, in their order. -/
import Derived.Test.YtdbgeahmhfocaaaGreatPart2
/- Steps: what a thread still does, and what stands for it in memory. -/
namespace Go.Proofs.YtdbgeahmhfocaaaGreat
set_option linter.unusedSimpArgs false
set_option linter.unusedVariables false
set_option maxRecDepth 100000
open Go Go.RowKit
/-- A part of memory. -/
abbrev HF := Nat → Option HP
/-- A world, and what is done in it: an action tells the world behind it, what is done next, and whether it is a move. -/
structure Lg (B : World) where
  U : Type
  A : Type
  ex : Nat → U → A → U × List A × Bool
  pre : Nat → U → A → Prop
  WI : (Nat → Prop) → U → St → Prop
  fresh : ∀ {G F : Nat → Prop} {u s}, WI G u s → (∀ c, F c → s.m c = none ∧ c < s.n) → WI (fun c => G c ∨ F c) u s
  weak : ∀ {G G' : Nat → Prop} {u s}, WI G' u s → (∀ c, G c → G' c) → WI G u s
  stable : ∀ {G u s s'}, WI G u s → (∀ c y, ¬ G c → s.m c = some y → s'.m c = some y) → s.n ≤ s'.n → WI G u s'
section
variable {B : World} (L : Lg B)
structure Env (h : HF) (G : Nat → Prop) (u : L.U) (s : St) : Prop where
  wf : s.wf B
  sub : ∀ c y, h c = some y → s.m c = some y
  dis : ∀ c, G c → h c = none
  lt : ∀ c, G c → c < s.n
  I : L.WI (fun c => G c ∨ h c ≠ none) u s
structure Aft (R : Value → HF → Prop) (G : Nat → Prop) (u : L.U) (s : St) (v : Value) (s' : St) : Prop where
  n : s.n ≤ s'.n
  keep : ∀ c y, G c → s.m c = some y → s'.m c = some y
  rep : ∃ h', R v h' ∧ (∀ c y, h' c = some y → s'.m c = some y) ∧ (∀ c, G c → h' c = none) ∧ L.WI (fun c => G c ∨ h' c ≠ none) u s'
def Rep (t : Nat) : Nat → List L.A → Value → HF → Prop
  | 0, T, v, _ => T = [] ∧ v = .nilFunc
  | n + 1, T, v, h => match T with
    | [] => v = .nilFunc
    | a :: r => ∃ f c1 c2, v = .func (.func f) c1 c2 ∧ ∀ G u s, Env L h G u s → L.pre t u a → Fn Tryz.prog B f (c1 ++ c2) s fun rv s' =>
      ((L.ex t u a).2.2 = true → ∃ v', rv = .tuple #[v', .bool true] ∧ Aft L (Rep t n ((L.ex t u a).2.1 ++ r)) G (L.ex t u a).1 s v' s') ∧
      ((L.ex t u a).2.2 = false → rv = .tuple #[.nilFunc, .bool false] ∧ Aft L (fun _ h' => h' = h) G (L.ex t u a).1 s rv s')
/-- What comes next. -/
def NxOk (P : L.U → Prop) (t n : Nat) (ψ : L.U → L.U × List L.A) (nv : Value) (h : HF) : Prop :=
  (nv = .nilFunc ∧ ∀ u, ψ u = (u, [])) ∨ ∃ f c1 c2, nv = .func (.func f) c1 c2 ∧ ∀ G u s, Env L h G u s → P u → Fn Tryz.prog B f (c1 ++ c2) s fun v' s' => Aft L (Rep L t n (ψ u).2) G (ψ u).1 s v' s'
/-- What is done. -/
def FxOk (P : L.U → Prop) (φ : L.U → L.U) (η : L.U → HF) (fv : Value) (h : HF) : Prop :=
  (fv = .nilFunc ∧ ∀ u, φ u = u ∧ η u = h) ∨ ∃ f c1 c2, fv = .func (.func f) c1 c2 ∧ ∀ G u s, Env L h G u s → P u → Fn Tryz.prog B f (c1 ++ c2) s fun _ s' => Aft L (fun _ h' => h' = η u) G (φ u) s .nilFunc s'
variable {L}
theorem Env.kept {h : HF} {G : Nat → Prop} {u : L.U} {s s' : St} (he : Env L h G u s) (hm : ∀ c, c < s.n → s'.m c = s.m c) (hn : s.n ≤ s'.n) (hw : s'.wf B) : Env L (fun c => if s.n ≤ c then s'.m c else h c) G u s' := by
  refine ⟨hw, fun c y hc => ?_, fun c hc => ?_, fun c hc => Nat.lt_of_lt_of_le (he.lt c hc) hn, ?_⟩
  · split at hc
    · exact hc
    · rw [hm c (by omega)]; exact he.sub c y hc
  · have := he.lt c hc
    rw [if_neg (by omega)]; exact he.dis c hc
  · have hno : ∀ c, s.n ≤ c → s.m c = none := fun c hc => by
      cases hx : s.m c with
      | none => rfl
      | some y => have := (he.wf.2 _ _ hx).2; omega
    have h1 : L.WI (fun c => G c ∨ h c ≠ none) u (s.up s'.n) := L.stable he.I (fun c y _ hx => hx) hn
    have h2 := L.fresh (F := fun c => s.n ≤ c ∧ c < s'.n) h1 fun c hc => ⟨hno c hc.1, hc.2⟩
    have h3 := L.stable (s' := s') h2 (fun c y hc hx => by
      have hx' : s.m c = some y := hx
      rw [hm c (he.wf.2 _ _ hx').2]; exact hx') (Nat.le_refl _)
    refine L.weak h3 fun c hc => ?_
    rcases hc with hc | hc
    · exact .inl (.inl hc)
    · split at hc
      · rename_i h4
        refine .inr ⟨h4, ?_⟩
        cases hx : s'.m c with
        | none => rw [hx] at hc; exact absurd rfl hc
        | some y => exact (hw.2 _ _ hx).2
      · exact .inl (.inr hc)
theorem Env.weak {h h2 : HF} {G G2 : Nat → Prop} {u : L.U} {s : St} (he : Env L h2 G2 u s) (hs : ∀ c y, h c = some y → h2 c = some y) (hg : ∀ c, G c → G2 c ∨ h2 c ≠ none) (hd : ∀ c, G c → h c = none) : Env L h G u s := by
  refine ⟨he.wf, fun c y hc => he.sub c y (hs c y hc), hd, fun c hc => ?_, L.weak he.I fun c hc => ?_⟩
  · rcases hg c hc with h1 | h1
    · exact he.lt c h1
    · cases hx : h2 c with
      | none => exact absurd hx h1
      | some y => exact (he.wf.2 _ _ (he.sub _ _ hx)).2
  · rcases hc with hc | hc
    · exact hg c hc
    · right
      cases hx : h c with
      | none => exact absurd hx hc
      | some y => rw [hs _ _ hx]; simp
theorem Aft.env {R : Value → HF → Prop} {G G0 : Nat → Prop} {u u0 : L.U} {h : HF} {s s' : St} {v : Value} (h1 : Aft L R G u s v s') (h0 : Env L h G0 u0 s) (hG : ∀ c, G c → G0 c ∨ h c ≠ none) (hw : s'.wf B) : ∃ h', R v h' ∧ Env L h' G u s' := by
  obtain ⟨n1, k1, h', r1, s1, d1, i1⟩ := h1
  refine ⟨h', r1, hw, s1, d1, fun c hc => ?_, i1⟩
  rcases hG c hc with h2 | h2
  · have := h0.lt c h2; omega
  · cases hx : h c with
    | none => exact absurd hx h2
    | some y => have := (h0.wf.2 _ _ (h0.sub _ _ hx)).2; omega
theorem Aft.mono {R R' : Value → HF → Prop} {G : Nat → Prop} {u : L.U} {s s' : St} {v v' : Value} (h1 : Aft L R G u s v s') (hr : ∀ h, R v h → R' v' h) : Aft L R' G u s v' s' :=
  ⟨h1.n, h1.keep, let ⟨h', a, b⟩ := h1.rep; ⟨h', hr h' a, b⟩⟩
theorem Aft.trans {R R' : Value → HF → Prop} {G : Nat → Prop} {u u' : L.U} {s s1 s' : St} {v v' : Value} (h0 : Aft L R' G u' s v' s1) (h1 : Aft L R G u s1 v s') : Aft L R G u s v s' :=
  ⟨Nat.le_trans h0.n h1.n, fun c y hc hx => h1.keep c y hc (h0.keep c y hc hx), h1.rep⟩
/-- What was made ahead of it is no matter. -/
theorem Aft.since {R : Value → HF → Prop} {h : HF} {G : Nat → Prop} {u u' : L.U} {s s1 s' : St} {v : Value} (he : Env L h G u' s) (hm : ∀ c, c < s.n → s1.m c = s.m c) (hn : s.n ≤ s1.n) (h1 : Aft L R G u s1 v s') : Aft L R G u s v s' :=
  ⟨Nat.le_trans hn h1.n, fun c y hc hx => h1.keep c y hc (by rw [hm c (he.lt c hc)]; exact hx), h1.rep⟩
theorem Env.done {R : Value → HF → Prop} {h : HF} {G : Nat → Prop} {u : L.U} {s : St} {v : Value} (he : Env L h G u s) (hr : R v h) : Aft L R G u s v s :=
  ⟨Nat.le_refl _, fun c y _ hx => hx, h, hr, he.sub, he.dis, he.I⟩
theorem rep_nil (t : Nat) : ∀ (n : Nat) (h : HF), Rep L t n [] .nilFunc h
  | 0, h => ⟨rfl, rfl⟩
  | n + 1, h => rfl
theorem Rep.nil {t n : Nat} {v : Value} {h : HF} (hr : Rep L t n [] v h) : v = .nilFunc := by
  cases n with
  | zero => exact hr.2
  | succ n => exact hr
theorem Rep.cons {t n : Nat} {a : L.A} {r : List L.A} {v : Value} {h : HF} (hr : Rep L t n (a :: r) v h) : ∃ m, n = m + 1 ∧ ∃ f c1 c2, v = .func (.func f) c1 c2 := by
  cases n with
  | zero => cases hr.1
  | succ n => obtain ⟨f, c1, c2, hv, _⟩ := hr; exact ⟨n, rfl, f, c1, c2, hv⟩
theorem Rep.st {t n : Nat} {T : List L.A} {v : Value} {h : HF} (hr : Rep L t n T v h) : StV v := by
  cases T with
  | nil => exact .inl hr.nil
  | cons a r => obtain ⟨_, _, h1⟩ := hr.cons; exact .inr h1
/-- With more memory it stands as well. -/
theorem Rep.more {t : Nat} : ∀ {n : Nat} {T : List L.A} {v : Value} {h h2 : HF}, Rep L t n T v h → (∀ c y, h c = some y → h2 c = some y) → Rep L t n T v h2
  | 0, _, _, _, _, hr, _ => hr
  | n + 1, [], _, _, _, hr, _ => hr
  | n + 1, a :: r, v, h, h2, hr, hs => by
    obtain ⟨f, c1, c2, hv, hc⟩ := hr
    refine ⟨f, c1, c2, hv, fun G u s he hp => ?_⟩
    have he2 : Env L h (fun c => G c ∨ (h2 c ≠ none ∧ h c = none)) u s := he.weak hs (fun c hc => hc.imp id fun h => h.1) fun c hc => by
      rcases hc with hc | hc
      · cases hx : h c with
        | none => rfl
        | some y => have h3 := he.dis c hc; rw [hs _ _ hx] at h3; cases h3
      · exact hc.2
    refine (hc _ u s he2 hp).mono fun rv s' ⟨h1, h3⟩ => ⟨fun ho => ?_, fun ho => ?_⟩
    · obtain ⟨v', e1, n1, k1, h', r1, s1, d1, i1⟩ := h1 ho
      exact ⟨v', e1, n1, fun c y hc hx => k1 c y (.inl hc) hx, h', r1, s1, fun c hc => d1 c (.inl hc), L.weak i1 fun c hc => hc.imp .inl id⟩
    · obtain ⟨e1, n1, k1, h', rfl, s1, d1, i1⟩ := h3 ho
      refine ⟨e1, n1, fun c y hc hx => k1 c y (.inl hc) hx, h2, rfl, fun c y hc => ?_, he.dis, L.weak i1 fun c hc => ?_⟩
      · cases hx : h' c with
        | none => exact k1 c y (.inr ⟨by rw [hc]; simp, hx⟩) (he.sub _ _ hc)
        | some z =>
          have := hs _ _ hx
          rw [hc] at this; cases this
          exact s1 _ _ hx
      · rcases hc with hc | hc
        · exact .inl (.inl hc)
        · cases hx : h' c with
          | none => exact .inl (.inr ⟨hc, by first | exact hx | rfl⟩)
          | some z => exact .inr (by simp)
theorem Rep.up {t : Nat} : ∀ {n m : Nat} {T : List L.A} {v : Value} {h : HF}, Rep L t n T v h → n ≤ m → Rep L t m T v h
  | 0, m, T, v, h, hr, _ => by
    obtain ⟨rfl, rfl⟩ := hr
    exact rep_nil t m h
  | n + 1, 0, T, v, h, hr, hm => by omega
  | n + 1, m + 1, [], v, h, hr, hm => hr
  | n + 1, m + 1, a :: r, v, h, hr, hm => by
    obtain ⟨f, c1, c2, hv, hc⟩ := hr
    refine ⟨f, c1, c2, hv, fun G u s he hp => (hc G u s he hp).mono fun rv s' ⟨h1, h3⟩ => ⟨fun ho => ?_, h3⟩⟩
    obtain ⟨v', e1, h4⟩ := h1 ho
    exact ⟨v', e1, h4.mono fun h hr => Rep.up hr (by omega)⟩
theorem NxOk.more {P : L.U → Prop} {t n : Nat} {ψ : L.U → L.U × List L.A} {nv : Value} {h h2 : HF} (hn : NxOk L P t n ψ nv h) (hs : ∀ c y, h c = some y → h2 c = some y) : NxOk L P t n ψ nv h2 := by
  rcases hn with hn | ⟨f, c1, c2, hv, hc⟩
  · exact .inl hn
  · refine .inr ⟨f, c1, c2, hv, fun G u s he hp => ?_⟩
    have he2 : Env L h G u s := he.weak hs (fun c hc => .inl hc) fun c hc => by
      cases hx : h c with
      | none => rfl
      | some y => have h3 := he.dis c hc; rw [hs _ _ hx] at h3; cases h3
    exact hc _ u s he2 hp
/-! ### The system -/
def updL {α : Type} (ps : Nat → α) (t : Nat) (T : α) : Nat → α := fun j => if j = t then T else ps j
def lgTr (x : L.U × (Nat → List L.A)) (t : Nat) : (L.U × (Nat → List L.A)) × Bool :=
  match x.2 t with
  | [] => (x, true)
  | a :: r => (((L.ex t x.1 a).1, if (L.ex t x.1 a).2.2 then updL x.2 t ((L.ex t x.1 a).2.1 ++ r) else x.2), (L.ex t x.1 a).2.2)
structure LgI (L : Lg B) (n : Nat) (G : Nat → Prop) (x : L.U × (Nat → List L.A)) (vs : List Value) (s : St) : Prop where
  len : vs.length = n
  lt : ∀ c, G c → c < s.n
  hs : ∃ hs : Nat → HF, (∀ t c y, hs t c = some y → s.m c = some y) ∧ (∀ t c, G c → hs t c = none) ∧ (∀ t t' c, t ≠ t' → hs t c ≠ none → hs t' c = none) ∧
    L.WI (fun c => G c ∨ ∃ t, hs t c ≠ none) x.1 s ∧ ∀ t v, vs[t]? = some v → ∃ k, Rep L t k (x.2 t) v (hs t)
theorem LgI.val {n : Nat} {G : Nat → Prop} {x : L.U × (Nat → List L.A)} {vs : List Value} {s : St} (h : LgI L n G x vs s) {t : Nat} {v : Value} (hv : vs[t]? = some v) : (x.2 t = [] ∧ v = .nilFunc) ∨ (x.2 t ≠ [] ∧ ∃ f c1 c2, v = .func (.func f) c1 c2) := by
  obtain ⟨hs, _, _, _, _, h5⟩ := h.hs
  obtain ⟨k, hr⟩ := h5 t v hv
  cases hT : x.2 t with
  | nil => rw [hT] at hr; exact .inl ⟨rfl, hr.nil⟩
  | cons a r => rw [hT] at hr; obtain ⟨_, _, h1⟩ := hr.cons; exact .inr ⟨by simp, h1⟩
theorem LgI.fresh {n : Nat} {G : Nat → Prop} {x : L.U × (Nat → List L.A)} {vs : List Value} {s : St} {q : Nat} (h : LgI L n G x vs s) (hq : s.m q = none) (hqn : q < s.n) : LgI L n (fun c => G c ∨ c = q) x vs s := by
  obtain ⟨hs, h1, h2, h3, h4, h5⟩ := h.hs
  refine ⟨h.len, fun c hc => hc.elim (h.lt c) (fun e => e ▸ hqn), hs, h1, fun t c hc => ?_, h3, ?_, h5⟩
  · rcases hc with hc | rfl
    · exact h2 t c hc
    · cases hx : hs t c with
      | none => rfl
      | some y => have := h1 _ _ _ hx; rw [hq] at this; cases this
  · refine L.weak (L.fresh (F := fun c => c = q) h4 fun c hc => hc ▸ ⟨hq, hqn⟩) fun c hc => ?_
    rcases hc with (hc | hc) | hc
    · exact .inl (.inl hc)
    · exact .inr hc
    · exact .inl (.inr hc)
theorem LgI.weak {n : Nat} {G G' : Nat → Prop} {x : L.U × (Nat → List L.A)} {vs : List Value} {s : St} (h : LgI L n G' x vs s) (hG : ∀ c, G c → G' c) : LgI L n G x vs s := by
  obtain ⟨hs, h1, h2, h3, h4, h5⟩ := h.hs
  exact ⟨h.len, fun c hc => h.lt c (hG c hc), hs, h1, fun t c hc => h2 t c (hG c hc), h3, L.weak h4 fun c hc => hc.imp (hG c) id, h5⟩
theorem LgI.stable {n : Nat} {G : Nat → Prop} {x : L.U × (Nat → List L.A)} {vs : List Value} {s s' : St} (h : LgI L n G x vs s) (hk : ∀ c y, ¬ G c → s.m c = some y → s'.m c = some y) (hn : s.n ≤ s'.n) : LgI L n G x vs s' := by
  obtain ⟨hs, h1, h2, h3, h4, h5⟩ := h.hs
  refine ⟨h.len, fun c hc => Nat.lt_of_lt_of_le (h.lt c hc) hn, hs, fun t c y hx => hk c y (fun hg => ?_) (h1 t c y hx), h2, h3, L.stable h4 (fun c y hc hx => hk c y (fun hg => hc (.inl hg)) hx) hn, h5⟩
  have := h2 t c hg; rw [hx] at this; cases this
def lgSys (L : Lg B) (n : Nat) (Gd : L.U × (Nat → List L.A) → Prop) (hpre : ∀ x t a r, Gd x → t < n → x.2 t = a :: r → L.pre t x.1 a) (hstep : ∀ x t, Gd x → t < n → x.2 t ≠ [] → Gd (lgTr (L := L) x t).1) : Sys B where
  X := L.U × (Nat → List L.A)
  n := n
  live := fun x t => !(x.2 t).isEmpty
  tr := lgTr
  Inv := fun G x vs s => LgI L n G x vs s ∧ Gd x
  len := fun h => h.1.len
  val := by
    intro G x vs s t v h hv
    rcases h.1.val hv with ⟨h1, h2⟩ | ⟨h1, h2⟩
    · exact .inl ⟨by rw [h1]; rfl, h2⟩
    · refine .inr ⟨?_, h2⟩
      cases hT : x.2 t with
      | nil => exact absurd hT h1
      | cons a r => rfl
  fresh := fun h hq hqn => ⟨h.1.fresh hq hqn, h.2⟩
  weak := fun h hG => ⟨h.1.weak hG, h.2⟩
  stable := fun h hk hn => ⟨h.1.stable hk hn, h.2⟩
  step := by
    intro G x vs s t f c1 c2 hws hI hlv hv
    obtain ⟨h, hgd⟩ := hI
    have htn : t < n := by have := (List.getElem?_eq_some_iff.1 hv).1; rw [h.len] at this; exact this
    obtain ⟨hs, h1, h2, h3, h4, h5⟩ := h.hs
    obtain ⟨k, hr⟩ := h5 t _ hv
    cases hT : x.2 t with
    | nil => rw [hT] at hlv; cases hlv
    | cons a r =>
      rw [hT] at hr
      obtain ⟨k', rfl, _⟩ := hr.cons
      obtain ⟨f', c1', c2', hf, hc⟩ := hr
      injection hf with e1 e2 e3
      injection e1 with e1
      subst e1 e2 e3
      have he : Env L (hs t) (fun c => G c ∨ ∃ j, j ≠ t ∧ hs j c ≠ none) x.1 s := by
        refine ⟨hws, h1 t, fun c hc => ?_, fun c hc => ?_, L.weak h4 fun c hc => ?_⟩
        · rcases hc with hc | ⟨j, hj, hc⟩
          · exact h2 t c hc
          · exact h3 j t c hj hc
        · rcases hc with hc | ⟨j, hj, hc⟩
          · exact h.lt c hc
          · cases hx : hs j c with
            | none => exact absurd hx hc
            | some y => exact (hws.2 _ _ (h1 _ _ _ hx)).2
        · rcases hc with (hc | ⟨j, hj, hc⟩) | hc
          · exact .inl hc
          · exact .inr ⟨j, hc⟩
          · exact .inr ⟨t, hc⟩
      have hgd' := hstep x t hgd htn (by rw [hT]; simp)
      refine (hc _ _ s he (hpre x t a r hgd htn hT)).mono fun rv s' ⟨hy, hn⟩ => ?_
      have htr : lgTr x t = (((L.ex t x.1 a).1, if (L.ex t x.1 a).2.2 then updL x.2 t ((L.ex t x.1 a).2.1 ++ r) else x.2), (L.ex t x.1 a).2.2) := by
        unfold lgTr; rw [hT]
      rw [htr] at hgd' ⊢
      cases hok : (L.ex t x.1 a).2.2 with
      | true =>
        obtain ⟨v', rfl, n1, k1, h', r1, s1, d1, i1⟩ := hy hok
        have htl : t < vs.length := (List.getElem?_eq_some_iff.1 hv).1
        simp only [hok, if_true] at hgd' ⊢
        refine ⟨v', rfl, r1.st, ⟨⟨by rw [List.length_set]; exact h.len, fun c hc => Nat.lt_of_lt_of_le (h.lt c hc) n1, fun j => if j = t then h' else hs j, fun j c y hx => ?_, fun j c hc => ?_, fun j j' c hj hx => ?_, L.weak i1 fun c hc => ?_, fun j v hj => ?_⟩, hgd'⟩, n1, fun c y hc hx => k1 c y (.inl hc) hx⟩
        · simp only at hx
          split at hx
          · exact s1 _ _ hx
          · rename_i hjt
            exact k1 c y (.inr ⟨j, hjt, by rw [hx]; simp⟩) (h1 _ _ _ hx)
        · show (if j = t then h' else hs j) c = none
          split
          · exact d1 c (.inl hc)
          · exact h2 j c hc
        · simp only at hx ⊢
          split at hx
          · rename_i e; subst e
            rw [if_neg (fun e => hj e.symm)]
            cases hx2 : hs j' c with
            | none => rfl
            | some y => exact absurd (d1 c (.inr ⟨j', fun e => hj e.symm, by rw [hx2]; simp⟩)) hx
          · rename_i hjt
            split
            · exact d1 c (.inr ⟨j, hjt, hx⟩)
            · exact h3 j j' c hj hx
        · rcases hc with hc | ⟨j, hc⟩
          · exact .inl (.inl hc)
          · simp only at hc
            split at hc
            · exact .inr hc
            · rename_i hjt; exact .inl (.inr ⟨j, hjt, hc⟩)
        · by_cases e : j = t
          · subst e
            rw [List.getElem?_set_self htl] at hj
            cases hj
            refine ⟨k', ?_⟩
            simp only [updL, if_true]; exact r1
          · rw [List.getElem?_set_ne (fun e' => e e'.symm)] at hj
            obtain ⟨k2, hk2⟩ := h5 j v hj
            refine ⟨k2, ?_⟩
            simp only [updL, if_neg e]; exact hk2
      | false =>
        obtain ⟨rfl, n1, k1, h', rfl, s1, d1, i1⟩ := hn hok
        simp only [hok, Bool.false_eq_true, if_false] at hgd' ⊢
        refine ⟨_, rfl, .inl rfl, ⟨⟨h.len, fun c hc => Nat.lt_of_lt_of_le (h.lt c hc) n1, hs, fun j c y hx => ?_, h2, h3, L.weak i1 fun c hc => ?_, h5⟩, hgd'⟩, n1, fun c y hc hx => k1 c y (.inl hc) hx⟩
        · by_cases e : j = t
          · subst e; exact s1 _ _ hx
          · exact k1 c y (.inr ⟨j, e, by rw [hx]; simp⟩) (h1 _ _ _ hx)
        · rcases hc with hc | ⟨j, hc⟩
          · exact .inl (.inl hc)
          · by_cases e : j = t
            · subst e; exact .inr (by assumption)
            · exact .inl (.inr ⟨j, e, hc⟩)
end
end Go.Proofs.YtdbgeahmhfocaaaGreat

/- Steps: contracts of the functions that make steps. -/
namespace Go.Proofs.YtdbgeahmhfocaaaGreat
set_option linter.unusedSimpArgs false
set_option linter.unusedVariables false
set_option maxRecDepth 100000
open Go Go.RowKit
section
variable {B : World} {L : Lg B} {K : Value → St → Prop} {G : Nat → Prop} {s : St}
/-- Memory behind something that was made. -/
def grow (h : HF) (s s' : St) : HF := fun c => if s.n ≤ c then s'.m c else h c
theorem Env.grow {h : HF} {u : L.U} {s' : St} (he : Env L h G u s) (hm : ∀ c, c < s.n → s'.m c = s.m c) (hn : s.n ≤ s'.n) (hw : s'.wf B) : Env L (grow h s s') G u s' := he.kept hm hn hw
theorem Env.hlt {h : HF} {u : L.U} (he : Env L h G u s) {c : Nat} {y : HP} (hc : h c = some y) : c < s.n := (he.wf.2 _ _ (he.sub _ _ hc)).2
theorem Env.gsub {h : HF} {u : L.U} {s' : St} (he : Env L h G u s) : ∀ c y, h c = some y → Go.Proofs.YtdbgeahmhfocaaaGreat.grow h s s' c = some y := fun c y hc => by
  have := he.hlt hc
  unfold Go.Proofs.YtdbgeahmhfocaaaGreat.grow
  rw [if_neg (by omega)]; exact hc
theorem FxOk.more' {P : L.U → Prop} {φ : L.U → L.U} {η : L.U → HF} {fv : Value} {h h2 : HF} (hf : FxOk L P φ η fv h) (hs : ∀ c y, h c = some y → h2 c = some y) (hd : ∀ u c, h c = none → η u c = none) : FxOk L P φ (fun u c => if (h c).isNone then h2 c else η u c) fv h2 := by
  rcases hf with ⟨hf, hi⟩ | ⟨f, c1, c2, hv, hc⟩
  · refine .inl ⟨hf, fun u => ⟨(hi u).1, ?_⟩⟩
    funext c
    simp only [(hi u).2]
    cases hx : h c with
    | none => rfl
    | some y => exact (hs _ _ hx).symm
  · refine .inr ⟨f, c1, c2, hv, fun G u s he hp => ?_⟩
    have hno : ∀ c, G c → h c = none := fun c hc => by
      cases hx : h c with
      | none => rfl
      | some y => have h3 := he.dis c hc; rw [hs _ _ hx] at h3; cases h3
    have he2 : Env L h (fun c => G c ∨ (h2 c ≠ none ∧ h c = none)) u s := he.weak hs (fun c hc => hc.imp id fun h => h.1) fun c hc => by
      rcases hc with hc | hc
      · exact hno c hc
      · exact hc.2
    refine (hc _ u s he2 hp).mono fun rv s' ⟨n1, k1, h', e1, s1, d1, i1⟩ => ?_
    subst e1
    refine ⟨n1, fun c y hc hx => k1 c y (.inl hc) hx, _, rfl, fun c y hc => ?_, fun c hc => ?_, L.weak i1 fun c hc => ?_⟩
    · cases hx : h c with
      | none =>
        simp only [hx, Option.isNone_none, if_true] at hc
        exact k1 c y (.inr ⟨by rw [hc]; simp, hx⟩) (he.sub _ _ hc)
      | some z =>
        simp only [hx, Option.isNone_some, Bool.false_eq_true, if_false] at hc
        exact s1 _ _ hc
    · simp only [hno c hc, Option.isNone_none, if_true]
      exact he.dis c hc
    · rcases hc with hc | hc
      · exact .inl (.inl hc)
      · cases hx : h c with
        | none =>
          simp only [hx, Option.isNone_none, if_true] at hc
          exact .inl (.inr ⟨hc, by first | exact hx | rfl⟩)
        | some z =>
          simp only [hx, Option.isNone_some, Bool.false_eq_true, if_false] at hc
          exact .inr hc
theorem then_of {P : L.U → Prop} {t n : Nat} {ψ : L.U → L.U × List L.A} {nv : Value} {h : HF} {u : L.U} (hn : NxOk L P t n ψ nv h) (he : Env L h G u s) (hp : P u) (hK : ∀ v' s', Aft L (Rep L t n (ψ u).2) G (ψ u).1 s v' s' → s'.wf B → K v' s') :
    Fn Tryz.prog B 64 #[nv] s K := by
  refine Fn.of is64 (by simp) fun hwf => ?_
  rcases hn with ⟨rfl, hu⟩ | ⟨f, c1, c2, rfl, hc⟩
  · simp only [b64, Tryz.f64, Option.getD_some]
    simp -implicitDefEqProofs (disch := first | omega | (simp only [St.set_n, St.up_n, List.length_cons, List.length_nil]; omega)) only [go_sem, Nat.reduceAdd, Nat.reduceMul, Nat.reduceSub, Int.reduceAdd, Int.reduceMul, Int.reduceSub, Int.reduceNeg, Int.reduceToNat]
    refine hK _ _ ?_ hwf
    rw [hu]
    exact he.done (rep_nil _ _ _)
  · simp only [b64, Tryz.f64, Option.getD_some]
    simp -implicitDefEqProofs (disch := first | omega | (simp only [St.set_n, St.up_n, List.length_cons, List.length_nil]; omega)) only [go_sem, Nat.reduceAdd, Nat.reduceMul, Nat.reduceSub, Int.reduceAdd, Int.reduceMul, Int.reduceSub, Int.reduceNeg, Int.reduceToNat]
    refine callF_wf ((hc G u s he hp).mono fun v' s' h1 hw => ?_)
    simp -implicitDefEqProofs (disch := first | omega | (simp only [St.set_n, St.up_n, List.length_cons, List.length_nil]; omega)) only [go_sem, Nat.reduceAdd, Nat.reduceMul, Nat.reduceSub, Int.reduceAdd, Int.reduceMul, Int.reduceSub, Int.reduceNeg, Int.reduceToNat]
    exact hK _ _ h1 hw
theorem do_rep {t n b1 b2 : Nat} {a : L.A} {r : List L.A} {φ : L.U → L.U} {η : L.U → HF} {ψ : L.U → L.U → L.U × List L.A} {fv nv : Value} {h : HF} (h1 : h b1 = some (.raw (.cells #[fv] 1 (0, 0)))) (h2 : ∀ u, η u b2 = some (.raw (.cells #[nv] 110 (0, 0))))
    (hf : FxOk L (fun u => L.pre t u a) φ η fv h) (hn : ∀ u, L.pre t u a → NxOk L (fun u1 => u1 = φ u) t n (ψ u) nv (η u)) (hex : ∀ u, L.pre t u a → (L.ex t u a).2.2 = true ∧ (L.ex t u a).1 = (ψ u (φ u)).1 ∧ (L.ex t u a).2.1 ++ r = (ψ u (φ u)).2) :
    Rep L t (n + 1) (a :: r) (.func (.func 63) #[] #[.pointer (some ⟨b1, 0, none⟩), .pointer (some ⟨b2, 0, none⟩)]) h := by
  refine ⟨_, _, _, rfl, fun G u s he hp => ?_⟩
  obtain ⟨e1, e2, e3⟩ := hex u hp
  have m1 := he.sub _ _ h1
  refine Fn.of is63 (by simp) fun hwf => ?_
  rcases hf with ⟨rfl, hi⟩ | ⟨f, c1, c2, rfl, hc⟩
  · obtain ⟨i1, i2⟩ := hi u
    have h2u := h2 u
    have hnu := hn u hp
    rw [i2] at h2u hnu
    have m2 := he.sub _ _ h2u
    simp only [b63, Tryz.f63, Option.getD_some]
    simp -implicitDefEqProofs (disch := first | omega | (simp only [St.set_n, St.up_n, List.length_cons, List.length_nil]; omega)) only [go_sem, Nat.reduceAdd, Nat.reduceMul, Nat.reduceSub, Int.reduceAdd, Int.reduceMul, Int.reduceSub, Int.reduceNeg, Int.reduceToNat, m1, m2]
    refine callF_of (then_of hnu he i1.symm fun v' s' ha hw => ?_)
    simp -implicitDefEqProofs (disch := first | omega | (simp only [St.set_n, St.up_n, List.length_cons, List.length_nil]; omega)) only [go_sem, Nat.reduceAdd, Nat.reduceMul, Nat.reduceSub, Int.reduceAdd, Int.reduceMul, Int.reduceSub, Int.reduceNeg, Int.reduceToNat]
    rw [i1] at e2 e3
    rw [e1, e2, e3]
    exact ⟨fun _ => ⟨_, rfl, ha⟩, fun h => by cases h⟩
  · simp only [b63, Tryz.f63, Option.getD_some]
    simp -implicitDefEqProofs (disch := first | omega | (simp only [St.set_n, St.up_n, List.length_cons, List.length_nil]; omega)) only [go_sem, Nat.reduceAdd, Nat.reduceMul, Nat.reduceSub, Int.reduceAdd, Int.reduceMul, Int.reduceSub, Int.reduceNeg, Int.reduceToNat, m1]
    refine callF_wf ((hc G u s he hp).mono fun v1 s1 ha1 hw1 => ?_)
    obtain ⟨h', rfl, he1⟩ := ha1.env he (fun c hc => .inl hc) hw1
    have m2 := he1.sub _ _ (h2 u)
    simp -implicitDefEqProofs (disch := first | omega | (simp only [St.set_n, St.up_n, List.length_cons, List.length_nil]; omega)) only [go_sem, Nat.reduceAdd, Nat.reduceMul, Nat.reduceSub, Int.reduceAdd, Int.reduceMul, Int.reduceSub, Int.reduceNeg, Int.reduceToNat, m2]
    refine callF_of (then_of (hn u hp) he1 rfl fun v' s' ha hw => ?_)
    simp -implicitDefEqProofs (disch := first | omega | (simp only [St.set_n, St.up_n, List.length_cons, List.length_nil]; omega)) only [go_sem, Nat.reduceAdd, Nat.reduceMul, Nat.reduceSub, Int.reduceAdd, Int.reduceMul, Int.reduceSub, Int.reduceNeg, Int.reduceToNat]
    rw [e1, e2, e3]
    exact ⟨fun _ => ⟨_, rfl, ha1.trans ha⟩, fun h => by cases h⟩
theorem do_of {t n : Nat} {a : L.A} {r : List L.A} {φ : L.U → L.U} {η : L.U → HF} {ψ : L.U → L.U → L.U × List L.A} {fv nv : Value} {h : HF} {u0 : L.U}
    (hf : FxOk L (fun u => L.pre t u a) φ η fv h) (hd : ∀ u c, h c = none → η u c = none) (hq2 : vc nv = #[nv] ∧ nv.oneCell' = true) (hn : ∀ u, L.pre t u a → NxOk L (fun u1 => u1 = φ u) t n (ψ u) nv (η u)) (hex : ∀ u, L.pre t u a → (L.ex t u a).2.2 = true ∧ (L.ex t u a).1 = (ψ u (φ u)).1 ∧ (L.ex t u a).2.1 ++ r = (ψ u (φ u)).2)
    (he : Env L h G u0 s) (hK : ∀ v' s', Aft L (Rep L t (n + 1) (a :: r)) G u0 s v' s' → s'.wf B → K v' s') : Fn Tryz.prog B 35 #[fv, nv] s K := by
  have q1 : vc fv = #[fv] ∧ fv.oneCell' = true := by rcases hf with ⟨rfl, _⟩ | ⟨_, _, _, rfl, _⟩ <;> exact ⟨rfl, rfl⟩
  have q2 := hq2
  refine Fn.of is35 (by simp) fun hwf => ?_
  have hB := hwf.1
  simp only [b35, Tryz.f35, Option.getD_some]
  simp -implicitDefEqProofs (disch := first | omega | (simp only [St.set_n, St.up_n, List.length_cons, List.length_nil]; omega)) only [go_sem, Nat.reduceAdd, Nat.reduceMul, Nat.reduceSub, Int.reduceAdd, Int.reduceMul, Int.reduceSub, Int.reduceNeg, Int.reduceToNat, q1.1, q1.2, q2.1, q2.2]
  have hk : ∀ c, c < s.n → (((s.set s.n (.raw (.cells #[fv] 1 (0, 0)))).set (s.n + 1) (.raw (.cells #[nv] 110 (0, 0)))).up (s.n + 1 + 1)).m c = s.m c := fun c hc => by simp -implicitDefEqProofs (disch := first | omega | (simp only [St.set_n, St.up_n, List.length_cons, List.length_nil]; omega)) only [go_sem, Nat.reduceAdd, Nat.reduceMul, Nat.reduceSub, Int.reduceAdd, Int.reduceMul, Int.reduceSub, Int.reduceNeg, Int.reduceToNat]
  have hw : (((s.set s.n (.raw (.cells #[fv] 1 (0, 0)))).set (s.n + 1) (.raw (.cells #[nv] 110 (0, 0)))).up (s.n + 1 + 1)).wf B := by
    refine ⟨by simp only [St.up_n]; omega, fun c x hx => ?_⟩
    simp only [St.up_m, St.set, St.up_n] at hx ⊢
    split at hx
    · omega
    · split at hx
      · omega
      · have := hwf.2 _ _ hx; omega
  have m1 : (((s.set s.n (.raw (.cells #[fv] 1 (0, 0)))).set (s.n + 1) (.raw (.cells #[nv] 110 (0, 0)))).up (s.n + 1 + 1)).m s.n = some (.raw (.cells #[fv] 1 (0, 0))) := by simp -implicitDefEqProofs (disch := first | omega | (simp only [St.set_n, St.up_n, List.length_cons, List.length_nil]; omega)) only [go_sem, Nat.reduceAdd, Nat.reduceMul, Nat.reduceSub, Int.reduceAdd, Int.reduceMul, Int.reduceSub, Int.reduceNeg, Int.reduceToNat]
  have m2 : (((s.set s.n (.raw (.cells #[fv] 1 (0, 0)))).set (s.n + 1) (.raw (.cells #[nv] 110 (0, 0)))).up (s.n + 1 + 1)).m (s.n + 1) = some (.raw (.cells #[nv] 110 (0, 0))) := by simp -implicitDefEqProofs (disch := first | omega | (simp only [St.set_n, St.up_n, List.length_cons, List.length_nil]; omega)) only [go_sem, Nat.reduceAdd, Nat.reduceMul, Nat.reduceSub, Int.reduceAdd, Int.reduceMul, Int.reduceSub, Int.reduceNeg, Int.reduceToNat]
  have hn1 : s.n ≤ (((s.set s.n (.raw (.cells #[fv] 1 (0, 0)))).set (s.n + 1) (.raw (.cells #[nv] 110 (0, 0)))).up (s.n + 1 + 1)).n := by simp only [St.up_n]; omega
  generalize ((s.set s.n (.raw (.cells #[fv] 1 (0, 0)))).set (s.n + 1) (.raw (.cells #[nv] 110 (0, 0)))).up (s.n + 1 + 1) = s1 at hk hw m1 m2 hn1 ⊢
  have he1 := he.grow hk hn1 hw
  have hno : ∀ c, s.n ≤ c → h c = none := fun c hc => by
    cases hx : h c with
    | none => rfl
    | some y => have := he.hlt hx; omega
  refine hK _ _ (Aft.since he hk hn1 (he1.done ?_)) hw
  refine do_rep (φ := φ) (ψ := ψ) (η := fun u c => if (h c).isNone then grow h s s1 c else η u c) (fv := fv) (nv := nv) ?_ (fun u => ?_) (hf.more' he.gsub hd) (fun u hp => (hn u hp).more fun c y hc => ?_) hex
  · unfold grow; rw [if_pos (Nat.le_refl _)]; exact m1
  · simp only [hno (s.n + 1) (by omega), Option.isNone_none, if_true]
    unfold grow; rw [if_pos (by omega)]; exact m2
  · cases hx : h c with
    | none => have := hd u c hx; rw [hc] at this; cases this
    | some z => simp only [Option.isNone_some, Bool.false_eq_true, if_false]; exact hc
end
end Go.Proofs.YtdbgeahmhfocaaaGreat

/- Steps: locks and frees, one behind the other. -/
namespace Go.Proofs.YtdbgeahmhfocaaaGreat
set_option linter.unusedSimpArgs false
set_option linter.unusedVariables false
set_option maxRecDepth 100000
open Go Go.RowKit
section
variable {B : World} {L : Lg B} {K : Value → St → Prop} {G : Nat → Prop} {s : St}
/-- A call that changes the world, and leaves the thread's part as it is. -/
def OpOk (L : Lg B) (P : L.U → Prop) (f : FuncId) (args : Array Value) (Q : L.U → Value → Prop) (φ : L.U → L.U) (h : HF) : Prop :=
  ∀ G u s, Env L h G u s → P u → Fn Tryz.prog B f args s fun r s' => Q u r ∧ Aft L (fun _ h' => h' = h) G (φ u) s .nilFunc s'
theorem OpOk.more {P : L.U → Prop} {f : FuncId} {args : Array Value} {Q : L.U → Value → Prop} {φ : L.U → L.U} {h h2 : HF} (ho : OpOk L P f args Q φ h) (hs : ∀ c y, h c = some y → h2 c = some y) : OpOk L P f args Q φ h2 := by
  intro G u s he hp
  have hno : ∀ c, G c → h c = none := fun c hc => by
    cases hx : h c with
    | none => rfl
    | some y => have h3 := he.dis c hc; rw [hs _ _ hx] at h3; cases h3
  have he2 : Env L h (fun c => G c ∨ (h2 c ≠ none ∧ h c = none)) u s := he.weak hs (fun c hc => hc.imp id fun h => h.1) fun c hc => by
    rcases hc with hc | hc
    · exact hno c hc
    · exact hc.2
  refine (ho _ u s he2 hp).mono fun rv s' ⟨hq, n1, k1, h', e1, s1, d1, i1⟩ => ⟨hq, ?_⟩
  subst e1
  refine ⟨n1, fun c y hc hx => k1 c y (.inl hc) hx, h2, rfl, fun c y hc => ?_, he.dis, L.weak i1 fun c hc => ?_⟩
  · cases hx : h' c with
    | none => exact k1 c y (.inr ⟨by rw [hc]; simp, hx⟩) (he.sub _ _ hc)
    | some z =>
      have := hs _ _ hx
      rw [hc] at this; cases this
      exact s1 _ _ hx
  · rcases hc with hc | hc
    · exact .inl (.inl hc)
    · cases hx : h' c with
      | none => exact .inl (.inr ⟨hc, by first | exact hx | rfl⟩)
      | some z => exact .inr (by simp)
/-- A call that only reads. -/
def RdOk (L : Lg B) (f : FuncId) (args : Array Value) (v : Value) (h : HF) : Prop := ∀ G u s, Env L h G u s → Fn Tryz.prog B f args s fun r s' => r = v ∧ s' = s
theorem RdOk.more {f : FuncId} {args : Array Value} {v : Value} {h h2 : HF} (ho : RdOk L f args v h) (hs : ∀ c y, h c = some y → h2 c = some y) : RdOk L f args v h2 := by
  intro G u s he
  have hno : ∀ c, G c → h c = none := fun c hc => by
    cases hx : h c with
    | none => rfl
    | some y => have h3 := he.dis c hc; rw [hs _ _ hx] at h3; cases h3
  exact ho G u s (he.weak hs (fun c hc => .inl hc) hno)
def PtV (v : Value) : Prop := ∃ a, v = .pointer a
theorem PtV.one {v : Value} (h : PtV v) : vc v = #[v] ∧ v.oneCell' = true := by obtain ⟨a, rfl⟩ := h; exact ⟨rfl, rfl⟩
theorem NxOk.one {P : L.U → Prop} {t n : Nat} {ψ : L.U → L.U × List L.A} {nv : Value} {h : HF} (hn : NxOk L P t n ψ nv h) : vc nv = #[nv] ∧ nv.oneCell' = true := by
  rcases hn with ⟨rfl, _⟩ | ⟨_, _, _, rfl, _⟩ <;> exact ⟨rfl, rfl⟩
theorem lock_rep {t n b1 b2 b3 : Nat} {a : L.A} {r : List L.A} {ok : L.U → Bool} {φ : L.U → L.U} {ψ : L.U → L.U × List L.A} {lv nv : Value} {uo : Int} {h : HF}
    (h1 : h b1 = some (.raw (.cells #[lv] 124 (0, 0)))) (h2 : h b2 = some (.raw (.cells #[.int .i64 uo] 3 (0, 0)))) (h3 : h b3 = some (.raw (.cells #[nv] 110 (0, 0))))
    (ht : OpOk L (fun _ => True) 115 #[lv, .int .i64 uo] (fun u r => r = .bool (ok u)) φ h) (hn : NxOk L (fun _ => True) t n ψ nv h)
    (hex : ∀ u, (L.ex t u a).2.2 = ok u ∧ (ok u = false → (L.ex t u a).1 = φ u) ∧ (ok u = true → (L.ex t u a).1 = (ψ (φ u)).1 ∧ (L.ex t u a).2.1 ++ r = (ψ (φ u)).2)) :
    Rep L t (n + 1) (a :: r) (.func (.func 114) #[] #[.pointer (some ⟨b1, 0, none⟩), .pointer (some ⟨b2, 0, none⟩), .pointer (some ⟨b3, 0, none⟩)]) h := by
  refine ⟨_, _, _, rfl, fun G u s he hp => ?_⟩
  obtain ⟨e1, e2, e3⟩ := hex u
  have m1 := he.sub _ _ h1
  have m2 := he.sub _ _ h2
  refine Fn.of is114 (by simp) fun hwf => ?_
  simp only [b114, Tryz.f114, Option.getD_some]
  simp -implicitDefEqProofs (disch := first | omega | (simp only [St.set_n, St.up_n, List.length_cons, List.length_nil]; omega)) only [go_sem, Nat.reduceAdd, Nat.reduceMul, Nat.reduceSub, Int.reduceAdd, Int.reduceMul, Int.reduceSub, Int.reduceNeg, Int.reduceToNat, m1, m2]
  refine callF_wf ((ht G u s he trivial).mono fun v1 s1 ⟨hv1, ha1⟩ hw1 => ?_)
  subst hv1
  obtain ⟨h', rfl, he1⟩ := ha1.env he (fun c hc => .inl hc) hw1
  have m3 := he1.sub _ _ h3
  cases hok : ok u with
  | false =>
    simp -implicitDefEqProofs (disch := first | omega | (simp only [St.set_n, St.up_n, List.length_cons, List.length_nil]; omega)) only [go_sem, Nat.reduceAdd, Nat.reduceMul, Nat.reduceSub, Int.reduceAdd, Int.reduceMul, Int.reduceSub, Int.reduceNeg, Int.reduceToNat]
    rw [hok] at e1
    rw [e1, e2 hok]
    exact ⟨(fun h => by cases h), fun _ => by first | exact ⟨rfl, ha1.mono fun h hh => hh⟩ | exact ha1.mono fun h hh => hh⟩
  | true =>
    simp -implicitDefEqProofs (disch := first | omega | (simp only [St.set_n, St.up_n, List.length_cons, List.length_nil]; omega)) only [go_sem, Nat.reduceAdd, Nat.reduceMul, Nat.reduceSub, Int.reduceAdd, Int.reduceMul, Int.reduceSub, Int.reduceNeg, Int.reduceToNat, m3]
    refine callF_of (then_of hn he1 trivial fun v' s' ha hw => ?_)
    simp -implicitDefEqProofs (disch := first | omega | (simp only [St.set_n, St.up_n, List.length_cons, List.length_nil]; omega)) only [go_sem, Nat.reduceAdd, Nat.reduceMul, Nat.reduceSub, Int.reduceAdd, Int.reduceMul, Int.reduceSub, Int.reduceNeg, Int.reduceToNat]
    rw [hok] at e1
    rw [e1, (e3 hok).1, (e3 hok).2]
    exact ⟨fun _ => ⟨_, rfl, ha1.trans ha⟩, fun h => by cases h⟩
theorem lock_of {t n : Nat} {a : L.A} {r : List L.A} {ok : L.U → Bool} {φ : L.U → L.U} {ψ : L.U → L.U × List L.A} {lv nv : Value} {uo : Int} {h : HF} {u0 : L.U} (hl : PtV lv)
    (ht : OpOk L (fun _ => True) 115 #[lv, .int .i64 uo] (fun u r => r = .bool (ok u)) φ h) (hn : NxOk L (fun _ => True) t n ψ nv h)
    (hex : ∀ u, (L.ex t u a).2.2 = ok u ∧ (ok u = false → (L.ex t u a).1 = φ u) ∧ (ok u = true → (L.ex t u a).1 = (ψ (φ u)).1 ∧ (L.ex t u a).2.1 ++ r = (ψ (φ u)).2))
    (he : Env L h G u0 s) (hK : ∀ v' s', Aft L (Rep L t (n + 1) (a :: r)) G u0 s v' s' → s'.wf B → K v' s') : Fn Tryz.prog B 97 #[lv, .int .i64 uo, nv] s K := by
  refine Fn.of is97 (by simp) fun hwf => ?_
  have hB := hwf.1
  simp only [b97, Tryz.f97, Option.getD_some]
  simp -implicitDefEqProofs (disch := first | omega | (simp only [St.set_n, St.up_n, List.length_cons, List.length_nil]; omega)) only [go_sem, Nat.reduceAdd, Nat.reduceMul, Nat.reduceSub, Int.reduceAdd, Int.reduceMul, Int.reduceSub, Int.reduceNeg, Int.reduceToNat, hl.one.1, hl.one.2, hn.one.1, hn.one.2]
  have key : ∀ s1, s1 = (((s.set s.n (.raw (.cells #[lv] 124 (0, 0)))).set (s.n + 1) (.raw (.cells #[.int .i64 uo] 3 (0, 0)))).set (s.n + 1 + 1) (.raw (.cells #[nv] 110 (0, 0)))).up (s.n + 1 + 1 + 1) →
      (∀ c, c < s.n → s1.m c = s.m c) ∧ s1.wf B ∧ s.n ≤ s1.n ∧ s1.m s.n = some (.raw (.cells #[lv] 124 (0, 0))) ∧ s1.m (s.n + 1) = some (.raw (.cells #[.int .i64 uo] 3 (0, 0))) ∧ s1.m (s.n + 1 + 1) = some (.raw (.cells #[nv] 110 (0, 0))) := by
    rintro s1 rfl
    refine ⟨fun c hc => by simp -implicitDefEqProofs (disch := first | omega | (simp only [St.set_n, St.up_n, List.length_cons, List.length_nil]; omega)) only [go_sem, Nat.reduceAdd, Nat.reduceMul, Nat.reduceSub, Int.reduceAdd, Int.reduceMul, Int.reduceSub, Int.reduceNeg, Int.reduceToNat], ⟨by simp only [St.up_n]; omega, fun c x hx => ?_⟩, by simp only [St.up_n]; omega, by simp -implicitDefEqProofs (disch := first | omega | (simp only [St.set_n, St.up_n, List.length_cons, List.length_nil]; omega)) only [go_sem, Nat.reduceAdd, Nat.reduceMul, Nat.reduceSub, Int.reduceAdd, Int.reduceMul, Int.reduceSub, Int.reduceNeg, Int.reduceToNat], by simp -implicitDefEqProofs (disch := first | omega | (simp only [St.set_n, St.up_n, List.length_cons, List.length_nil]; omega)) only [go_sem, Nat.reduceAdd, Nat.reduceMul, Nat.reduceSub, Int.reduceAdd, Int.reduceMul, Int.reduceSub, Int.reduceNeg, Int.reduceToNat], by simp -implicitDefEqProofs (disch := first | omega | (simp only [St.set_n, St.up_n, List.length_cons, List.length_nil]; omega)) only [go_sem, Nat.reduceAdd, Nat.reduceMul, Nat.reduceSub, Int.reduceAdd, Int.reduceMul, Int.reduceSub, Int.reduceNeg, Int.reduceToNat]⟩
    simp only [St.up_m, St.set, St.up_n] at hx ⊢
    split at hx
    · omega
    · split at hx
      · omega
      · split at hx
        · omega
        · have := hwf.2 _ _ hx; omega
  obtain ⟨hk, hw, hn1, m1, m2, m3⟩ := key _ rfl
  generalize (((s.set s.n (.raw (.cells #[lv] 124 (0, 0)))).set (s.n + 1) (.raw (.cells #[.int .i64 uo] 3 (0, 0)))).set (s.n + 1 + 1) (.raw (.cells #[nv] 110 (0, 0)))).up (s.n + 1 + 1 + 1) = s1 at hk hw m1 m2 m3 hn1 ⊢
  have he1 := he.grow hk hn1 hw
  refine hK _ _ (Aft.since he hk hn1 (he1.done ?_)) hw
  refine lock_rep (lv := lv) (nv := nv) (uo := uo) ?_ ?_ ?_ (ht.more he.gsub) (hn.more he.gsub) hex <;> unfold grow
  · rw [if_pos (by omega)]; exact m1
  · rw [if_pos (by omega)]; exact m2
  · rw [if_pos (by omega)]; exact m3
theorem Env.up {h : HF} {u : L.U} (he : Env L h G u s) {m : Nat} (hm : s.n ≤ m) : Env L h G u (s.up m) :=
  ⟨he.wf.up hm, he.sub, he.dis, fun c hc => by have := he.lt c hc; simp only [St.up_n]; omega, L.stable he.I (fun c y _ hx => hx) (by simp only [St.up_n]; omega)⟩
theorem Aft.up {R : Value → HF → Prop} {u : L.U} {v : Value} {s' : St} (h : Aft L R G u s v s') {m : Nat} (hm : s'.n ≤ m) : Aft L R G u s v (s'.up m) :=
  ⟨Nat.le_trans h.n (by simp only [St.up_n]; omega), h.keep, let ⟨h', a, b, c, d⟩ := h.rep; ⟨h', a, b, c, L.stable d (fun c y _ hx => hx) (by simp only [St.up_n]; omega)⟩⟩
theorem Env.less {h h2 : HF} {u : L.U} (he : Env L h2 G u s) (hs : ∀ c y, h c = some y → h2 c = some y) : Env L h G u s :=
  he.weak hs (fun c hc => .inl hc) fun c hc => by
    cases hx : h c with
    | none => rfl
    | some y => have h3 := he.dis c hc; rw [hs _ _ hx] at h3; cases h3
/-- A slice of numbers that the thread can read. -/
structure OrdV (L : Lg B) (h : HF) (v : Value) (os : List Int) : Prop where
  is : ∃ A cap, v = .slice A os.length cap ∧ os.length ≤ cap ∧ (os ≠ [] → ∃ b o cs ty, A = some ⟨b, o, none⟩ ∧ (∀ G u s, Env L h G u s → s.m b = some (.raw (.cells cs ty (0, 0)))) ∧ ∀ j x, os[j]? = some x → cs[o + j]? = some (.int .i64 x))
theorem OrdV.more {h h2 : HF} {v : Value} {os : List Int} (ho : OrdV L h v os) (hs : ∀ c y, h c = some y → h2 c = some y) : OrdV L h2 v os := by
  obtain ⟨A, cap, rfl, hc, h1⟩ := ho.is
  exact ⟨A, cap, rfl, hc, fun hne => let ⟨b, o, cs, ty, e, hb, hx⟩ := h1 hne; ⟨b, o, cs, ty, e, fun G u s he => hb G u s (he.less hs), hx⟩⟩
theorem OrdV.tail {h : HF} {A : Option Addr} {cap : Nat} {i : Int} {os : List Int} (ho : OrdV L h (.slice A (os.length + 1) cap) (i :: os)) : OrdV L h (.slice (slA A cap 1 1) os.length (cap - 1)) os := by
  obtain ⟨A', cap', e, hc, h1⟩ := ho.is
  cases e
  obtain ⟨b, o, cs, ty, rfl, hb, hx⟩ := h1 (by simp)
  simp only [List.length_cons] at hc
  refine ⟨_, _, rfl, by omega, fun hne => ?_⟩
  have : os.length ≠ 0 := fun e => hne (List.length_eq_zero_iff.1 e)
  rw [slA_mk (by omega)]
  refine ⟨b, o + 1 * 1, cs, ty, rfl, hb, fun j x hj => ?_⟩
  have := hx (j + 1) x (by rw [List.getElem?_cons_succ]; exact hj)
  rw [← this]; congr 1; omega
def LocksP (L : Lg B) (t n : Nat) (al : Int → L.A) (T : List L.A) (ok : Int → L.U → Bool) (φ : Int → L.U → L.U) (lv : Int → Value) (gv nv : Value) (uo : Int) (os : List Int) : Prop :=
  ∀ (h : HF) (G : Nat → Prop) (u : L.U) (s : St) (ov : Value) (K : Value → St → Prop),
    (∀ i ∈ os, RdOk L 51 #[gv, .int .i64 i] (lv i) h) → (∀ i ∈ os, OpOk L (fun _ => True) 115 #[lv i, .int .i64 uo] (fun u r => r = .bool (ok i u)) (φ i) h) →
    (∀ i ∈ os, ∀ u, (L.ex t u (al i)).2.2 = ok i u ∧ (L.ex t u (al i)).1 = φ i u ∧ (ok i u = true → (L.ex t u (al i)).2.1 = [])) →
    OrdV L h ov os → NxOk L (fun _ => True) t n (fun u => (u, T)) nv h → Env L h G u s → (∀ v' s', Aft L (Rep L t (n + os.length) (os.map al ++ T)) G u s v' s' → s'.wf B → K v' s') →
    Fn Tryz.prog B 78 #[gv, ov, .int .i64 uo, nv] s K
set_option maxHeartbeats 1000000 in
theorem locks_step {t n : Nat} {al : Int → L.A} {T : List L.A} {ok : Int → L.U → Bool} {φ : Int → L.U → L.U} {lv : Int → Value} {gv nv : Value} {uo : Int} (hg : PtV gv) (hl : ∀ i, PtV (lv i)) {os : List Int}
    (ih : ∀ i rest, os = i :: rest → LocksP L t n al T ok φ lv gv nv uo rest) : LocksP L t n al T ok φ lv gv nv uo os := by
  intro h G u s ov K ha ht hex ho hn he hK
  obtain ⟨A, cap, rfl, hcap, hA⟩ := ho.is
  refine Fn.of is78 (by simp) fun hwf => ?_
  have hB := hwf.1
  simp only [b78, Tryz.f78, Option.getD_some]
  simp -implicitDefEqProofs (disch := first | omega | (simp only [St.set_n, St.up_n, List.length_cons, List.length_nil]; omega)) only [go_sem, Nat.reduceAdd, Nat.reduceMul, Nat.reduceSub, Int.reduceAdd, Int.reduceMul, Int.reduceSub, Int.reduceNeg, Int.reduceToNat, hg.one.1, hg.one.2, hn.one.1, hn.one.2]
  have key : ∀ s1, s1 = ((((s.set s.n (.raw (.cells #[gv] 78 (0, 0)))).set (s.n + 1) (.raw (.cells #[.slice A os.length cap] 22 (0, 0)))).set (s.n + 1 + 1) (.raw (.cells #[.int .i64 uo] 3 (0, 0)))).set (s.n + 1 + 1 + 1) (.raw (.cells #[nv] 110 (0, 0)))).up (s.n + 1 + 1 + 1 + 1) →
      (∀ c, c < s.n → s1.m c = s.m c) ∧ s1.wf B ∧ s.n ≤ s1.n ∧ s1.m s.n = some (.raw (.cells #[gv] 78 (0, 0))) ∧ s1.m (s.n + 1) = some (.raw (.cells #[.slice A os.length cap] 22 (0, 0))) ∧ s1.m (s.n + 1 + 1) = some (.raw (.cells #[.int .i64 uo] 3 (0, 0))) ∧ s1.m (s.n + 1 + 1 + 1) = some (.raw (.cells #[nv] 110 (0, 0))) := by
    rintro s1 rfl
    refine ⟨fun c hc => by simp -implicitDefEqProofs (disch := first | omega | (simp only [St.set_n, St.up_n, List.length_cons, List.length_nil]; omega)) only [go_sem, Nat.reduceAdd, Nat.reduceMul, Nat.reduceSub, Int.reduceAdd, Int.reduceMul, Int.reduceSub, Int.reduceNeg, Int.reduceToNat], ⟨by simp only [St.up_n]; omega, fun c x hx => ?_⟩, by simp only [St.up_n]; omega, by simp -implicitDefEqProofs (disch := first | omega | (simp only [St.set_n, St.up_n, List.length_cons, List.length_nil]; omega)) only [go_sem, Nat.reduceAdd, Nat.reduceMul, Nat.reduceSub, Int.reduceAdd, Int.reduceMul, Int.reduceSub, Int.reduceNeg, Int.reduceToNat], by simp -implicitDefEqProofs (disch := first | omega | (simp only [St.set_n, St.up_n, List.length_cons, List.length_nil]; omega)) only [go_sem, Nat.reduceAdd, Nat.reduceMul, Nat.reduceSub, Int.reduceAdd, Int.reduceMul, Int.reduceSub, Int.reduceNeg, Int.reduceToNat], by simp -implicitDefEqProofs (disch := first | omega | (simp only [St.set_n, St.up_n, List.length_cons, List.length_nil]; omega)) only [go_sem, Nat.reduceAdd, Nat.reduceMul, Nat.reduceSub, Int.reduceAdd, Int.reduceMul, Int.reduceSub, Int.reduceNeg, Int.reduceToNat], by simp -implicitDefEqProofs (disch := first | omega | (simp only [St.set_n, St.up_n, List.length_cons, List.length_nil]; omega)) only [go_sem, Nat.reduceAdd, Nat.reduceMul, Nat.reduceSub, Int.reduceAdd, Int.reduceMul, Int.reduceSub, Int.reduceNeg, Int.reduceToNat]⟩
    simp only [St.up_m, St.set, St.up_n] at hx ⊢
    split at hx
    · omega
    · split at hx
      · omega
      · split at hx
        · omega
        · split at hx
          · omega
          · have := hwf.2 _ _ hx; omega
  obtain ⟨hk, hw, hn1, m1, m2, m3, m4⟩ := key _ rfl
  by_cases h0 : (os.length : Int) = 0
  · have h0' : os = [] := List.length_eq_zero_iff.1 (by omega)
    simp -implicitDefEqProofs (disch := first | omega | (simp only [St.set_n, St.up_n, List.length_cons, List.length_nil]; omega)) only [go_sem, Nat.reduceAdd, Nat.reduceMul, Nat.reduceSub, Int.reduceAdd, Int.reduceMul, Int.reduceSub, Int.reduceNeg, Int.reduceToNat, h0]
    generalize ((((s.set s.n (.raw (.cells #[gv] 78 (0, 0)))).set (s.n + 1) (.raw (.cells #[.slice A os.length cap] 22 (0, 0)))).set (s.n + 1 + 1) (.raw (.cells #[.int .i64 uo] 3 (0, 0)))).set (s.n + 1 + 1 + 1) (.raw (.cells #[nv] 110 (0, 0)))).up (s.n + 1 + 1 + 1 + 1) = s1 at hk hw m1 m2 m3 m4 hn1 ⊢
    have he1 := he.grow hk hn1 hw
    refine callF_of (then_of (hn.more he.gsub) he1 trivial fun v' s' ha' hw' => ?_)
    simp -implicitDefEqProofs (disch := first | omega | (simp only [St.set_n, St.up_n, List.length_cons, List.length_nil]; omega)) only [go_sem, Nat.reduceAdd, Nat.reduceMul, Nat.reduceSub, Int.reduceAdd, Int.reduceMul, Int.reduceSub, Int.reduceNeg, Int.reduceToNat]
    subst h0'
    exact hK _ _ (Aft.since he hk hn1 ha') hw'
  · simp -implicitDefEqProofs (disch := first | omega | (simp only [St.set_n, St.up_n, List.length_cons, List.length_nil]; omega)) only [go_sem, Nat.reduceAdd, Nat.reduceMul, Nat.reduceSub, Int.reduceAdd, Int.reduceMul, Int.reduceSub, Int.reduceNeg, Int.reduceToNat, h0]
    obtain ⟨i, rest, rfl⟩ : ∃ i rest, os = i :: rest := by
      cases os with
      | nil => exact absurd rfl h0
      | cons i rest => exact ⟨i, rest, rfl⟩
    obtain ⟨b, o, cs, ty, rfl, hb, hx⟩ := hA (by simp)
    have hb0 := hb G u s he
    have mb := hk b (hwf.2 _ _ hb0).2
    rw [hb0] at mb
    have x0 : cs[o]? = some (.int .i64 i) := by have := hx 0 i rfl; simpa using this
    have e8 : (0 : Int) < ((i :: rest).length : Int) := by simp only [List.length_cons]; omega
    simp only [List.length_cons, Int.natCast_add, Int.cast_ofNat_Int] at m2 e8
    have e9 : (1 : Int) ≤ (rest.length : Int) + 1 := by omega
    generalize ((((s.set s.n (.raw (.cells #[gv] 78 (0, 0)))).set (s.n + 1) (.raw (.cells #[.slice (some ⟨b, o, none⟩) (rest.length + 1) cap] 22 (0, 0)))).set (s.n + 1 + 1) (.raw (.cells #[.int .i64 uo] 3 (0, 0)))).set (s.n + 1 + 1 + 1) (.raw (.cells #[nv] 110 (0, 0)))).up (s.n + 1 + 1 + 1 + 1) = s1 at hk hw m1 m2 m3 m4 mb hn1 ⊢
    have he1 := he.grow hk hn1 hw
    simp -implicitDefEqProofs (disch := first | omega | (simp only [St.set_n, St.up_n, List.length_cons, List.length_nil]; omega)) only [go_sem, Nat.reduceAdd, Nat.reduceMul, Nat.reduceSub, Int.reduceAdd, Int.reduceMul, Int.reduceSub, Int.reduceNeg, Int.reduceToNat, m1, m2, m3, mb, x0, e8]
    refine effD_quiet (lv i) (fun m hm => ?_) ?_
    · simp -implicitDefEqProofs (disch := first | omega | (simp only [St.set_n, St.up_n, List.length_cons, List.length_nil]; omega)) only [go_sem, Nat.reduceAdd, Nat.reduceMul, Nat.reduceSub, Int.reduceAdd, Int.reduceMul, Int.reduceSub, Int.reduceNeg, Int.reduceToNat]
      exact ((ha i (by simp)).more he.gsub _ _ _ (he1.up hm)).mono fun r s' ⟨h1, h2⟩ => ⟨h1, m, Nat.le_refl _, h2⟩
    simp -implicitDefEqProofs (disch := first | omega | (simp only [St.set_n, St.up_n, List.length_cons, List.length_nil]; omega)) only [go_sem, Nat.reduceAdd, Nat.reduceMul, Nat.reduceSub, Int.reduceAdd, Int.reduceMul, Int.reduceSub, Int.reduceNeg, Int.reduceToNat, m3]
    refine effD_cut (by kernel_rfl) ?_
    intro jj hjj
    simp -implicitDefEqProofs (disch := first | omega | (simp only [St.set_n, St.up_n, List.length_cons, List.length_nil]; omega)) only [go_sem, Nat.reduceAdd, Nat.reduceMul, Nat.reduceSub, Int.reduceAdd, Int.reduceMul, Int.reduceSub, Int.reduceNeg, Int.reduceToNat]
    have he2 := he1.up hjj
    have hk2 : ∀ c, c < s.n → (s1.up jj).m c = s.m c := hk
    have mm : ∀ c y, s.n ≤ c → s1.m c = some y → grow h s s1 c = some y := fun c y hc hx => by unfold grow; rw [if_pos hc]; exact hx
    refine callF_of (lock_of (t := t) (n := n + rest.length) (a := al i) (r := rest.map al ++ T) (ok := ok i) (φ := φ i) (ψ := fun u => (u, rest.map al ++ T)) (hl i) ((ht i (by simp)).more he.gsub) (.inr ⟨_, _, _, rfl, fun G2 u2 s2 hE _ => ?_⟩) (fun u2 => ?_) he2 fun v' s' ha' hw' => ?_)
    · have o1 := hE.sub _ _ (mm _ _ (Nat.le_refl _) m1)
      have o2 := hE.sub _ _ (mm (s.n + 1) _ (by omega) m2)
      have o3 := hE.sub _ _ (mm (s.n + 1 + 1) _ (by omega) m3)
      have o4 := hE.sub _ _ (mm (s.n + 1 + 1 + 1) _ (by omega) m4)
      refine Fn.of is98 (by simp) fun hwf2 => ?_
      simp only [b98, Tryz.f98, Option.getD_some]
      simp -implicitDefEqProofs (disch := first | omega | (simp only [St.set_n, St.up_n, List.length_cons, List.length_nil]; omega)) only [go_sem, Nat.reduceAdd, Nat.reduceMul, Nat.reduceSub, Int.reduceAdd, Int.reduceMul, Int.reduceSub, Int.reduceNeg, Int.reduceToNat, o1, o2, o3, o4, e9]
      refine effD_cut (by kernel_rfl) ?_
      intro j2 hj2
      simp -implicitDefEqProofs (disch := first | omega | (simp only [St.set_n, St.up_n, List.length_cons, List.length_nil]; omega)) only [go_sem, Nat.reduceAdd, Nat.reduceMul, Nat.reduceSub, Int.reduceAdd, Int.reduceMul, Int.reduceSub, Int.reduceNeg, Int.reduceToNat]
      have hE2 := hE.up hj2
      refine callF_of (ih i rest rfl (grow h s s1) G2 u2 (s2.up j2) _ _ (fun k hk => (ha k (by simp [hk])).more he.gsub) (fun k hk => (ht k (by simp [hk])).more he.gsub) (fun k hk => hex k (by simp [hk])) (ho.tail.more he.gsub) (hn.more he.gsub) hE2 fun v' s' ha' hw' => ?_)
      simp -implicitDefEqProofs (disch := first | omega | (simp only [St.set_n, St.up_n, List.length_cons, List.length_nil]; omega)) only [go_sem, Nat.reduceAdd, Nat.reduceMul, Nat.reduceSub, Int.reduceAdd, Int.reduceMul, Int.reduceSub, Int.reduceNeg, Int.reduceToNat]
      intro j3 hj3
      have hn2 : s2.n ≤ (s2.up j2).n := by simp only [St.up_n]; omega
      exact (Aft.since (s1 := s2.up j2) hE (fun c _ => rfl) hn2 ha').up hj3
    · obtain ⟨x1, x2, x3⟩ := hex i (by simp) u2
      exact ⟨x1, fun _ => x2, fun hok => ⟨x2, by rw [x3 hok]; rfl⟩⟩
    · simp -implicitDefEqProofs (disch := first | omega | (simp only [St.set_n, St.up_n, List.length_cons, List.length_nil]; omega)) only [go_sem, Nat.reduceAdd, Nat.reduceMul, Nat.reduceSub, Int.reduceAdd, Int.reduceMul, Int.reduceSub, Int.reduceNeg, Int.reduceToNat]
      intro j3 hj3
      refine hK _ _ (Aft.up (Aft.since he hk2 (by simp only [St.up_n]; omega) ?_) hj3) (hw'.up hj3)
      have e : n + (i :: rest).length = n + rest.length + 1 := by simp only [List.length_cons]; omega
      rw [e]
      exact ha'
theorem locks_of {t n : Nat} {al : Int → L.A} {T : List L.A} {ok : Int → L.U → Bool} {φ : Int → L.U → L.U} {lv : Int → Value} {gv nv : Value} {uo : Int} (hg : PtV gv) (hl : ∀ i, PtV (lv i)) : ∀ os : List Int, LocksP L t n al T ok φ lv gv nv uo os
  | [] => locks_step hg hl fun i rest h => by cases h
  | i :: os => locks_step hg hl fun j rest h => by
      injection h with _ e2
      subst e2
      exact locks_of hg hl _
end
end Go.Proofs.YtdbgeahmhfocaaaGreat

/- Steps: frees, one behind the other. -/
namespace Go.Proofs.YtdbgeahmhfocaaaGreat
set_option linter.unusedSimpArgs false
set_option linter.unusedVariables false
set_option maxRecDepth 100000
open Go Go.RowKit
section
variable {B : World} {L : Lg B} {K : Value → St → Prop} {G : Nat → Prop} {s : St}
theorem free1_ok {P : L.U → Prop} {φ : L.U → L.U} {lv gv : Value} {uo i : Int} {h : HF} {x1 x2 x3 b o n cap : Nat} {cs : Array Value} {ty : TypeId} (h1 : h x1 = some (.raw (.cells #[gv] 78 (0, 0)))) (h2 : h x2 = some (.raw (.cells #[.slice (some ⟨b, o, none⟩) (n + 1) cap] 22 (0, 0))))
    (h3 : h x3 = some (.raw (.cells #[.int .i64 uo] 3 (0, 0)))) (hb : ∀ G u s, Env L h G u s → s.m b = some (.raw (.cells cs ty (0, 0)))) (x0 : cs[o]? = some (.int .i64 i))
    (ha : RdOk L 51 #[gv, .int .i64 i] lv h) (hf : OpOk L (fun _ => True) 100 #[lv, .int .i64 uo] (fun _ _ => True) φ h) :
    FxOk L P φ (fun _ => h) (.func (.func 99) #[] #[.pointer (some ⟨x1, 0, none⟩), .pointer (some ⟨x2, 0, none⟩), .pointer (some ⟨x3, 0, none⟩)]) h := by
  refine .inr ⟨_, _, _, rfl, fun G u s he _ => ?_⟩
  have m1 := he.sub _ _ h1
  have m2 := he.sub _ _ h2
  have m3 := he.sub _ _ h3
  have mb := hb _ _ _ he
  have e8 : (0 : Int) < (n : Int) + 1 := by omega
  refine Fn.of is99 (by simp) fun hwf => ?_
  simp only [b99, Tryz.f99, Option.getD_some]
  simp -implicitDefEqProofs (disch := first | omega | (simp only [St.set_n, St.up_n, List.length_cons, List.length_nil]; omega)) only [go_sem, Nat.reduceAdd, Nat.reduceMul, Nat.reduceSub, Int.reduceAdd, Int.reduceMul, Int.reduceSub, Int.reduceNeg, Int.reduceToNat, m1, m2, m3, mb, x0, e8]
  refine effD_quiet lv (fun m hm => ?_) ?_
  · simp -implicitDefEqProofs (disch := first | omega | (simp only [St.set_n, St.up_n, List.length_cons, List.length_nil]; omega)) only [go_sem, Nat.reduceAdd, Nat.reduceMul, Nat.reduceSub, Int.reduceAdd, Int.reduceMul, Int.reduceSub, Int.reduceNeg, Int.reduceToNat]
    exact (ha _ _ _ (he.up hm)).mono fun r s' ⟨h1, h2⟩ => ⟨h1, m, Nat.le_refl _, h2⟩
  simp -implicitDefEqProofs (disch := first | omega | (simp only [St.set_n, St.up_n, List.length_cons, List.length_nil]; omega)) only [go_sem, Nat.reduceAdd, Nat.reduceMul, Nat.reduceSub, Int.reduceAdd, Int.reduceMul, Int.reduceSub, Int.reduceNeg, Int.reduceToNat, m3]
  refine effD_cut (by kernel_rfl) ?_
  intro jj hjj
  simp -implicitDefEqProofs (disch := first | omega | (simp only [St.set_n, St.up_n, List.length_cons, List.length_nil]; omega)) only [go_sem, Nat.reduceAdd, Nat.reduceMul, Nat.reduceSub, Int.reduceAdd, Int.reduceMul, Int.reduceSub, Int.reduceNeg, Int.reduceToNat]
  refine callF_of ((hf _ _ _ (he.up hjj) trivial).mono fun r s' ⟨_, ha'⟩ => ?_)
  have hn2 : s.n ≤ (s.up jj).n := by simp only [St.up_n]; omega
  have hA := Aft.since (s1 := s.up jj) he (fun c _ => rfl) hn2 ha'
  simp -implicitDefEqProofs (disch := first | omega | (simp only [St.set_n, St.up_n, List.length_cons, List.length_nil]; omega)) only [go_sem, Nat.reduceAdd, Nat.reduceMul, Nat.reduceSub, Int.reduceAdd, Int.reduceMul, Int.reduceSub, Int.reduceNeg, Int.reduceToNat]
  first | exact hA | (intro j3 hj3; exact hA.up hj3)
def FreeP (L : Lg B) (Ps : List Int → L.U → Prop) (t n : Nat) (ψs : List Int → L.U → L.U × List L.A) (φ : Int → L.U → L.U) (lv : Int → Value) (gv nv : Value) (uo : Int) (os : List Int) : Prop :=
  ∀ (h : HF) (G : Nat → Prop) (u : L.U) (s : St) (ov : Value) (K : Value → St → Prop),
    (∀ i ∈ os, RdOk L 51 #[gv, .int .i64 i] (lv i) h) → (∀ i ∈ os, OpOk L (fun _ => True) 100 #[lv i, .int .i64 uo] (fun _ _ => True) (φ i) h) →
    OrdV L h ov os → NxOk L (Ps []) t n (ψs []) nv h → Env L h G u s → Ps os u → (∀ v' s', Aft L (Rep L t (n + os.length) (ψs os u).2) G (ψs os u).1 s v' s' → s'.wf B → K v' s') →
    Fn Tryz.prog B 82 #[gv, ov, .int .i64 uo, nv] s K
set_option maxHeartbeats 1000000 in
theorem free_step {Ps : List Int → L.U → Prop} {t n : Nat} {ψs : List Int → L.U → L.U × List L.A} {φ : Int → L.U → L.U} {al : List Int → L.A} {rl : List Int → List L.A} {lv : Int → Value} {gv nv : Value} {uo : Int} (hg : PtV gv)
    (hψ : ∀ i rest u, ψs (i :: rest) u = (u, al (i :: rest) :: rl (i :: rest)))
    (hps : ∀ i rest u, L.pre t u (al (i :: rest)) → Ps rest (φ i u))
    (hex : ∀ i rest u, L.pre t u (al (i :: rest)) → (L.ex t u (al (i :: rest))).2.2 = true ∧ (L.ex t u (al (i :: rest))).1 = (ψs rest (φ i u)).1 ∧ (L.ex t u (al (i :: rest))).2.1 ++ rl (i :: rest) = (ψs rest (φ i u)).2) {os : List Int}
    (ih : ∀ i rest, os = i :: rest → FreeP L Ps t n ψs φ lv gv nv uo rest) : FreeP L Ps t n ψs φ lv gv nv uo os := by
  intro h G u s ov K ha ht ho hn he hp hK
  obtain ⟨A, cap, rfl, hcap, hA⟩ := ho.is
  refine Fn.of is82 (by simp) fun hwf => ?_
  have hB := hwf.1
  simp only [b82, Tryz.f82, Option.getD_some]
  simp -implicitDefEqProofs (disch := first | omega | (simp only [St.set_n, St.up_n, List.length_cons, List.length_nil]; omega)) only [go_sem, Nat.reduceAdd, Nat.reduceMul, Nat.reduceSub, Int.reduceAdd, Int.reduceMul, Int.reduceSub, Int.reduceNeg, Int.reduceToNat, hg.one.1, hg.one.2, hn.one.1, hn.one.2]
  have key : ∀ s1, s1 = ((((s.set s.n (.raw (.cells #[gv] 78 (0, 0)))).set (s.n + 1) (.raw (.cells #[.slice A os.length cap] 22 (0, 0)))).set (s.n + 1 + 1) (.raw (.cells #[.int .i64 uo] 3 (0, 0)))).set (s.n + 1 + 1 + 1) (.raw (.cells #[nv] 110 (0, 0)))).up (s.n + 1 + 1 + 1 + 1) →
      (∀ c, c < s.n → s1.m c = s.m c) ∧ s1.wf B ∧ s.n ≤ s1.n ∧ s1.m s.n = some (.raw (.cells #[gv] 78 (0, 0))) ∧ s1.m (s.n + 1) = some (.raw (.cells #[.slice A os.length cap] 22 (0, 0))) ∧ s1.m (s.n + 1 + 1) = some (.raw (.cells #[.int .i64 uo] 3 (0, 0))) ∧ s1.m (s.n + 1 + 1 + 1) = some (.raw (.cells #[nv] 110 (0, 0))) := by
    rintro s1 rfl
    refine ⟨fun c hc => by simp -implicitDefEqProofs (disch := first | omega | (simp only [St.set_n, St.up_n, List.length_cons, List.length_nil]; omega)) only [go_sem, Nat.reduceAdd, Nat.reduceMul, Nat.reduceSub, Int.reduceAdd, Int.reduceMul, Int.reduceSub, Int.reduceNeg, Int.reduceToNat], ⟨by simp only [St.up_n]; omega, fun c x hx => ?_⟩, by simp only [St.up_n]; omega, by simp -implicitDefEqProofs (disch := first | omega | (simp only [St.set_n, St.up_n, List.length_cons, List.length_nil]; omega)) only [go_sem, Nat.reduceAdd, Nat.reduceMul, Nat.reduceSub, Int.reduceAdd, Int.reduceMul, Int.reduceSub, Int.reduceNeg, Int.reduceToNat], by simp -implicitDefEqProofs (disch := first | omega | (simp only [St.set_n, St.up_n, List.length_cons, List.length_nil]; omega)) only [go_sem, Nat.reduceAdd, Nat.reduceMul, Nat.reduceSub, Int.reduceAdd, Int.reduceMul, Int.reduceSub, Int.reduceNeg, Int.reduceToNat], by simp -implicitDefEqProofs (disch := first | omega | (simp only [St.set_n, St.up_n, List.length_cons, List.length_nil]; omega)) only [go_sem, Nat.reduceAdd, Nat.reduceMul, Nat.reduceSub, Int.reduceAdd, Int.reduceMul, Int.reduceSub, Int.reduceNeg, Int.reduceToNat], by simp -implicitDefEqProofs (disch := first | omega | (simp only [St.set_n, St.up_n, List.length_cons, List.length_nil]; omega)) only [go_sem, Nat.reduceAdd, Nat.reduceMul, Nat.reduceSub, Int.reduceAdd, Int.reduceMul, Int.reduceSub, Int.reduceNeg, Int.reduceToNat]⟩
    simp only [St.up_m, St.set, St.up_n] at hx ⊢
    split at hx
    · omega
    · split at hx
      · omega
      · split at hx
        · omega
        · split at hx
          · omega
          · have := hwf.2 _ _ hx; omega
  obtain ⟨hk, hw, hn1, m1, m2, m3, m4⟩ := key _ rfl
  by_cases h0 : (os.length : Int) = 0
  · have h0' : os = [] := List.length_eq_zero_iff.1 (by omega)
    simp -implicitDefEqProofs (disch := first | omega | (simp only [St.set_n, St.up_n, List.length_cons, List.length_nil]; omega)) only [go_sem, Nat.reduceAdd, Nat.reduceMul, Nat.reduceSub, Int.reduceAdd, Int.reduceMul, Int.reduceSub, Int.reduceNeg, Int.reduceToNat, h0]
    generalize ((((s.set s.n (.raw (.cells #[gv] 78 (0, 0)))).set (s.n + 1) (.raw (.cells #[.slice A os.length cap] 22 (0, 0)))).set (s.n + 1 + 1) (.raw (.cells #[.int .i64 uo] 3 (0, 0)))).set (s.n + 1 + 1 + 1) (.raw (.cells #[nv] 110 (0, 0)))).up (s.n + 1 + 1 + 1 + 1) = s1 at hk hw m1 m2 m3 m4 hn1 ⊢
    have he1 := he.grow hk hn1 hw
    subst h0'
    refine callF_of (then_of (hn.more he.gsub) he1 hp fun v' s' ha' hw' => ?_)
    simp -implicitDefEqProofs (disch := first | omega | (simp only [St.set_n, St.up_n, List.length_cons, List.length_nil]; omega)) only [go_sem, Nat.reduceAdd, Nat.reduceMul, Nat.reduceSub, Int.reduceAdd, Int.reduceMul, Int.reduceSub, Int.reduceNeg, Int.reduceToNat]
    exact hK _ _ (Aft.since he hk hn1 ha') hw'
  · simp -implicitDefEqProofs (disch := first | omega | (simp only [St.set_n, St.up_n, List.length_cons, List.length_nil]; omega)) only [go_sem, Nat.reduceAdd, Nat.reduceMul, Nat.reduceSub, Int.reduceAdd, Int.reduceMul, Int.reduceSub, Int.reduceNeg, Int.reduceToNat, h0]
    obtain ⟨i, rest, rfl⟩ : ∃ i rest, os = i :: rest := by
      cases os with
      | nil => exact absurd rfl h0
      | cons i rest => exact ⟨i, rest, rfl⟩
    obtain ⟨b, o, cs, ty, rfl, hb, hx⟩ := hA (by simp)
    have x0 : cs[o]? = some (.int .i64 i) := by have := hx 0 i rfl; simpa using this
    simp only [List.length_cons] at m2 hcap
    have e9 : (1 : Int) ≤ (rest.length : Int) + 1 := by omega
    generalize ((((s.set s.n (.raw (.cells #[gv] 78 (0, 0)))).set (s.n + 1) (.raw (.cells #[.slice (some ⟨b, o, none⟩) (rest.length + 1) cap] 22 (0, 0)))).set (s.n + 1 + 1) (.raw (.cells #[.int .i64 uo] 3 (0, 0)))).set (s.n + 1 + 1 + 1) (.raw (.cells #[nv] 110 (0, 0)))).up (s.n + 1 + 1 + 1 + 1) = s1 at hk hw m1 m2 m3 m4 hn1 ⊢
    have he1 := he.grow hk hn1 hw
    have mm : ∀ c y, s.n ≤ c → s1.m c = some y → grow h s s1 c = some y := fun c y hc hx => by unfold grow; rw [if_pos hc]; exact hx
    refine callF_of (do_of (t := t) (n := n + rest.length) (a := al (i :: rest)) (r := rl (i :: rest)) (φ := φ i) (η := fun _ => grow h s s1) (ψ := fun _ => ψs rest) (free1_ok (mm _ _ (by omega) m1) (mm _ _ (by omega) m2) (mm _ _ (by omega) m3) (fun _ _ _ h => hb _ _ _ (h.less he.gsub)) x0 ((ha i (by simp)).more he.gsub) ((ht i (by simp)).more he.gsub)) (fun _ _ hc => hc) ⟨rfl, rfl⟩ (fun u0 hp0 => .inr ⟨_, _, _, rfl, fun G2 u2 s2 hE hu2 => ?_⟩) (fun u2 hp2 => hex i rest u2 hp2) he1 fun v' s' ha' hw' => ?_)
    · have o1 := hE.sub _ _ (mm _ _ (Nat.le_refl _) m1)
      have o2 := hE.sub _ _ (mm (s.n + 1) _ (by omega) m2)
      have o3 := hE.sub _ _ (mm (s.n + 1 + 1) _ (by omega) m3)
      have o4 := hE.sub _ _ (mm (s.n + 1 + 1 + 1) _ (by omega) m4)
      refine Fn.of is101 (by simp) fun hwf2 => ?_
      simp only [b101, Tryz.f101, Option.getD_some]
      simp -implicitDefEqProofs (disch := first | omega | (simp only [St.set_n, St.up_n, List.length_cons, List.length_nil]; omega)) only [go_sem, Nat.reduceAdd, Nat.reduceMul, Nat.reduceSub, Int.reduceAdd, Int.reduceMul, Int.reduceSub, Int.reduceNeg, Int.reduceToNat, o1, o2, o3, o4, e9]
      refine effD_cut (by kernel_rfl) ?_
      intro j2 hj2
      simp -implicitDefEqProofs (disch := first | omega | (simp only [St.set_n, St.up_n, List.length_cons, List.length_nil]; omega)) only [go_sem, Nat.reduceAdd, Nat.reduceMul, Nat.reduceSub, Int.reduceAdd, Int.reduceMul, Int.reduceSub, Int.reduceNeg, Int.reduceToNat]
      have hE2 := hE.up hj2
      refine callF_of (ih i rest rfl (grow h s s1) G2 u2 (s2.up j2) _ _ (fun k hk => (ha k (by simp [hk])).more he.gsub) (fun k hk => (ht k (by simp [hk])).more he.gsub) (ho.tail.more he.gsub) (hn.more he.gsub) hE2 (hu2 ▸ hps i rest u0 hp0) fun v' s' ha' hw' => ?_)
      simp -implicitDefEqProofs (disch := first | omega | (simp only [St.set_n, St.up_n, List.length_cons, List.length_nil]; omega)) only [go_sem, Nat.reduceAdd, Nat.reduceMul, Nat.reduceSub, Int.reduceAdd, Int.reduceMul, Int.reduceSub, Int.reduceNeg, Int.reduceToNat]
      intro j3 hj3
      have hn2 : s2.n ≤ (s2.up j2).n := by simp only [St.up_n]; omega
      exact (Aft.since (s1 := s2.up j2) hE (fun c _ => rfl) hn2 ha').up hj3
    · simp -implicitDefEqProofs (disch := first | omega | (simp only [St.set_n, St.up_n, List.length_cons, List.length_nil]; omega)) only [go_sem, Nat.reduceAdd, Nat.reduceMul, Nat.reduceSub, Int.reduceAdd, Int.reduceMul, Int.reduceSub, Int.reduceNeg, Int.reduceToNat]
      refine hK _ _ (Aft.since he hk hn1 ?_) hw'
      have e : n + (i :: rest).length = n + rest.length + 1 := by simp only [List.length_cons]; omega
      rw [e, hψ]
      exact ha'
theorem free_of {Ps : List Int → L.U → Prop} {t n : Nat} {ψs : List Int → L.U → L.U × List L.A} {φ : Int → L.U → L.U} {al : List Int → L.A} {rl : List Int → List L.A} {lv : Int → Value} {gv nv : Value} {uo : Int} (hg : PtV gv)
    (hψ : ∀ i rest u, ψs (i :: rest) u = (u, al (i :: rest) :: rl (i :: rest)))
    (hps : ∀ i rest u, L.pre t u (al (i :: rest)) → Ps rest (φ i u))
    (hex : ∀ i rest u, L.pre t u (al (i :: rest)) → (L.ex t u (al (i :: rest))).2.2 = true ∧ (L.ex t u (al (i :: rest))).1 = (ψs rest (φ i u)).1 ∧ (L.ex t u (al (i :: rest))).2.1 ++ rl (i :: rest) = (ψs rest (φ i u)).2) : ∀ os : List Int, FreeP L Ps t n ψs φ lv gv nv uo os
  | [] => free_step hg hψ hps hex fun i rest h => by cases h
  | i :: os => free_step hg hψ hps hex fun j rest h => by
      injection h with _ e2
      subst e2
      exact free_of hg hψ hps hex _
end
end Go.Proofs.YtdbgeahmhfocaaaGreat

/- A run of threads that always go on: all are finished. -/
namespace Go.Proofs.YtdbgeahmhfocaaaGreat
set_option linter.unusedSimpArgs false
set_option linter.unusedVariables false
set_option maxRecDepth 100000
open Go Go.RowKit
section
variable {B : World}
structure Prg (Y : Sys B) (Good : Y.X → Prop) (μ : Y.X → Nat) : Prop where
  good : ∀ {x t}, Good x → t < Y.n → Y.live x t = true → Good (Y.tr x t).1
  dec : ∀ {x t}, Good x → t < Y.n → Y.live x t = true → (Y.tr x t).2 = true → μ (Y.tr x t).1 + 1 = μ x
  stay : ∀ {x t}, Good x → t < Y.n → Y.live x t = true → (Y.tr x t).2 = false → μ (Y.tr x t).1 = μ x ∧ ∀ j, j < Y.n → Y.live (Y.tr x t).1 j = Y.live x j ∧ (Y.live x j = true → (Y.tr (Y.tr x t).1 j).2 = (Y.tr x j).2)
  prog : ∀ {x}, Good x → Sys.leftA x = true → ∃ t, t < Y.n ∧ Y.live x t = true ∧ (Y.tr x t).2 = true
  fin : ∀ {x}, Good x → Sys.leftA x = false → μ x = 0
structure GoodA {Y : Sys B} (Good : Y.X → Prop) (μ : Y.X → Nat) (N : Nat) (a : Y.MA) : Prop where
  g : Good a.x
  n : a.mv.length + μ a.x = N
variable {Y : Sys B} {Good : Y.X → Prop} {μ : Y.X → Nat} {N : Nat}
theorem GoodA.turn {a : Y.MA} (hp : Prg Y Good μ) (h : GoodA Good μ N a) (t : Int) : GoodA Good μ N (Sys.turnA a t).1 := by
  unfold Sys.turnA
  split
  · rename_i hc
    have htn : t.toNat < Y.n := by omega
    refine ⟨hp.good h.g htn hc.2.2, ?_⟩
    have := h.n
    cases hok : (Y.tr a.x t.toNat).2 with
    | true =>
      have := hp.dec h.g htn hc.2.2 hok
      simp only [if_true, List.length_append, List.length_cons, List.length_nil]
      omega
    | false =>
      have := (hp.stay h.g htn hc.2.2 hok).1
      simp only [Bool.false_eq_true, if_false]
      omega
  · exact h
theorem GoodA.notFull {a : Y.MA} (h : GoodA Good μ N a) (hN : N ≤ 60000) : Sys.fullA a = false := by
  have := h.n
  unfold Sys.fullA
  rw [decide_eq_false (by omega)]; rfl
theorem GoodA.picks (hp : Prg Y Good μ) (hN : N ≤ 60000) : ∀ (ps : List Int) (a : Y.MA), GoodA Good μ N a → GoodA Good μ N (Sys.picksA a ps)
  | [], a, h => h
  | p :: ps, a, h => by
    rw [Sys.picksA, h.notFull hN]
    exact GoodA.picks hp hN ps _ (h.turn hp p)
theorem GoodA.round (hp : Prg Y Good μ) (hN : N ≤ 60000) : ∀ (k i : Nat) (y : Bool) (a : Y.MA), GoodA Good μ N a → GoodA Good μ N (Sys.roundA a i y k).1 ∧ (y = true → (Sys.roundA a i y k).2 = true)
  | 0, i, y, a, h => ⟨h, fun e => e⟩
  | k + 1, i, y, a, h => by
    rw [Sys.roundA, h.notFull hN]
    simp only [Bool.false_eq_true, if_false]
    obtain ⟨h1, h2⟩ := GoodA.round hp hN k (i + 1) (y || (Sys.turnA a i).2) _ (h.turn hp i)
    exact ⟨h1, fun e => h2 (by rw [e]; rfl)⟩
theorem GoodA.moves (hp : Prg Y Good μ) (hN : N ≤ 60000) : ∀ (k i : Nat) (y : Bool) (a : Y.MA), GoodA Good μ N a → i + k = Y.n → (∃ t, i ≤ t ∧ t < Y.n ∧ Y.live a.x t = true ∧ (Y.tr a.x t).2 = true) → (Sys.roundA a i y k).2 = true
  | 0, i, y, a, h, hk, ⟨t, h1, h2, _⟩ => by omega
  | k + 1, i, y, a, h, hk, ⟨t, h1, h2, h3, h4⟩ => by
    rw [Sys.roundA, h.notFull hN]
    simp only [Bool.false_eq_true, if_false]
    have hg := h.turn hp i
    cases hok : (Sys.turnA a i).2 with
    | true => rw [Bool.or_true]; exact (GoodA.round hp hN k (i + 1) true _ hg).2 rfl
    | false =>
      rw [Bool.or_false]
      have hti : t ≠ i := fun e => by
        subst e
        unfold Sys.turnA at hok
        rw [if_pos ⟨by omega, by omega, by simpa using h3⟩] at hok
        simp only [Int.toNat_natCast] at hok
        rw [h4] at hok; cases hok
      refine GoodA.moves hp hN k (i + 1) y _ hg (by omega) ⟨t, by omega, h2, ?_⟩
      by_cases hl : Y.live a.x i = true
      · have e : Sys.turnA a (i : Int) = (⟨(Y.tr a.x i).1, if (Y.tr a.x i).2 then a.mv ++ [(i : Int)] else a.mv, a.ca + 1⟩, (Y.tr a.x i).2) := by
          unfold Sys.turnA
          rw [if_pos ⟨by omega, by omega, by simpa using hl⟩]
          simp only [Int.toNat_natCast]
        rw [e] at hok ⊢
        have h5 := (hp.stay h.g (by omega) hl hok).2 t h2
        exact ⟨h5.1.trans h3, (h5.2 h3).trans h4⟩
      · have e : Sys.turnA a (i : Int) = (a, false) := by
          unfold Sys.turnA
          rw [if_neg fun hc => hl (by simpa using hc.2.2)]
        rw [e]; exact ⟨h3, h4⟩
theorem GoodA.loop (hp : Prg Y Good μ) (hN : N ≤ 60000) : ∀ (k : Nat) (a : Y.MA), GoodA Good μ N a → μ a.x < k → (Sys.loopA k a).2 = 0 ∧ Sys.leftA (Sys.loopA k a).1.x = false ∧ Good (Sys.loopA k a).1.x ∧ (Sys.loopA k a).1.mv.length = N
  | 0, a, h, hk => by omega
  | k + 1, a, h, hk => by
    rw [Sys.loopA, h.notFull hN]
    cases hl : Sys.leftA a.x with
    | false =>
      simp only [Bool.false_eq_true, if_false]
      refine ⟨trivial, hl, h.g, ?_⟩
      have := h.n; have := hp.fin h.g hl; omega
    | true =>
      obtain ⟨t, h1, h2, h3⟩ := hp.prog h.g hl
      have hm := GoodA.moves hp hN Y.n 0 false a h (by omega) ⟨t, by omega, h1, h2, h3⟩
      have hr := (GoodA.round hp hN Y.n 0 false a h).1
      simp only [if_true, Bool.false_eq_true, if_false, hm]
      refine GoodA.loop hp hN k _ hr ?_
      obtain ⟨_, r2, _⟩ := Sys.round_mono (a := a) Y.n 0 false
      have r3 := (r2 hm).resolve_left (fun h => by cases h)
      have := h.n; have := hr.n
      omega
theorem run_ends (hp : Prg Y Good μ) {x0 : Y.X} (hN : μ x0 ≤ 60000) (hg : Good x0) (picks : List Int) :
    (Sys.loopA 70000 (Sys.picksA ⟨x0, [], 0⟩ picks)).2 = 0 ∧ Sys.leftA (Sys.loopA 70000 (Sys.picksA ⟨x0, [], 0⟩ picks)).1.x = false ∧ Good (Sys.loopA 70000 (Sys.picksA ⟨x0, [], 0⟩ picks)).1.x ∧ (Sys.loopA 70000 (Sys.picksA ⟨x0, [], 0⟩ picks)).1.mv.length = μ x0 := by
  have h0 : GoodA Good μ (μ x0) (⟨x0, [], 0⟩ : Y.MA) := ⟨hg, by simp⟩
  have h1 := GoodA.picks hp hN picks _ h0
  exact GoodA.loop hp hN 70000 _ h1 (by have := h1.n; omega)
theorem left_none {x : Y.X} (h : Sys.leftA x = false) {t : Nat} (ht : t < Y.n) : Y.live x t = false := by
  unfold Sys.leftA at h
  rw [List.any_eq_false] at h
  have := h t (List.mem_range.2 ht)
  simpa using this
theorem left_of {x : Y.X} (h : Sys.leftA x = true) : ∃ t, t < Y.n ∧ Y.live x t = true := by
  unfold Sys.leftA at h
  obtain ⟨t, h1, h2⟩ := List.any_eq_true.1 h
  exact ⟨t, List.mem_range.1 h1, h2⟩
end
end Go.Proofs.YtdbgeahmhfocaaaGreat

/- What a cell's functions come to: contracts, by walks. -/
namespace Go.Proofs.YtdbgeahmhfocaaaGreat
set_option linter.unusedSimpArgs false
set_option linter.unusedVariables false
open Go Go.RowKit
section
variable {B : World} {σ : St} {K : Value → St → Prop}

variable {b o : Nat} {c : Array Value} {ty : TypeId} {n : Int}
/-- What is left of memory: the cell's block, whatever else was made. -/
def leftAs (σ : St) (b : Nat) (c : Array Value) (ty : TypeId) (k : Nat) : St := (σ.set b (.raw (.cells c ty (0, 0)))).up k

/-- The orders of what is done by the closure that swaps. -/
theorem accessI (hm : σ.m b = some (.raw (.cells c ty (0, 0)))) (hn : c[o + 1]? = some (.int .i64 n)) {g : Value}
    (h : FnV Tryz.prog B g #[] (σ.set b (.raw (.cells (c.setIfInBounds (o + 1) (.int .i64 (IntKind.i64.wrap (n + 1)))) ty (0, 0)))) fun _ σ' => K (.tuple #[]) σ') :
    Fn Tryz.prog B 120 #[.pointer (some ⟨b, o, none⟩), g] σ K := by
  have hlt : o + 1 < c.size := (Array.getElem?_eq_some_iff.1 hn).1
  refine Fn.of is120 (by simp) fun hwf => ?_
  simp only [b120, Tryz.f120, Option.getD_some]
  simp -implicitDefEqProofs (disch := first | omega | (simp only [St.set_n, St.up_n, List.length_cons, List.length_nil]; omega)) only [go_sem, Nat.reduceAdd, Nat.reduceMul, Nat.reduceSub, Int.reduceAdd, Int.reduceMul, Int.reduceSub, Int.reduceNeg, Int.reduceToNat, hm, hn]
  refine callK_any ?_
  simpa only [go_sem] using h
theorem accessI_none {g : Value} (hK : K (.tuple #[]) σ) : Fn Tryz.prog B 120 #[.pointer none, g] σ K := by
  refine Fn.of is120 (by simp) fun hwf => ?_
  simp only [b120, Tryz.f120, Option.getD_some]
  simp -implicitDefEqProofs (disch := first | omega | (simp only [St.set_n, St.up_n, List.length_cons, List.length_nil]; omega)) only [go_sem, Nat.reduceAdd, Nat.reduceMul, Nat.reduceSub, Int.reduceAdd, Int.reduceMul, Int.reduceSub, Int.reduceNeg, Int.reduceToNat]
  exact hK
theorem peekI {x : Int} (hm : σ.m b = some (.raw (.cells c ty (0, 0)))) (hx : c[o]? = some (.int .i64 x)) (hK : K (.int .i64 x) σ) : Fn Tryz.prog B 73 #[.pointer (some ⟨b, o, none⟩)] σ K := by
  refine Fn.of is73 (by simp) fun hwf => ?_
  simp only [b73, Tryz.f73, Option.getD_some]
  simp -implicitDefEqProofs (disch := first | omega | (simp only [St.set_n, St.up_n, List.length_cons, List.length_nil]; omega)) only [go_sem, Nat.reduceAdd, Nat.reduceMul, Nat.reduceSub, Int.reduceAdd, Int.reduceMul, Int.reduceSub, Int.reduceNeg, Int.reduceToNat, hm, hx]
  exact hK
theorem peekI_none (hK : K (.int .i64 0) σ) : Fn Tryz.prog B 73 #[.pointer none] σ K := by
  refine Fn.of is73 (by simp) fun hwf => ?_
  simp only [b73, Tryz.f73, Option.getD_some]
  simp -implicitDefEqProofs (disch := first | omega | (simp only [St.set_n, St.up_n, List.length_cons, List.length_nil]; omega)) only [go_sem, Nat.reduceAdd, Nat.reduceMul, Nat.reduceSub, Int.reduceAdd, Int.reduceMul, Int.reduceSub, Int.reduceNeg, Int.reduceToNat]
  exact hK
theorem casI {x old new : Int} (hm : σ.m b = some (.raw (.cells c ty (0, 0)))) (hx : c[o]? = some (.int .i64 x)) (hn : c[o + 1]? = some (.int .i64 n))
    (hK : ∀ k, σ.n ≤ k → K (.bool (decide (x = old))) (leftAs σ b (if x = old then (c.setIfInBounds (o + 1) (.int .i64 (IntKind.i64.wrap (n + 1)))).setIfInBounds o (.int .i64 new) else c.setIfInBounds (o + 1) (.int .i64 (IntKind.i64.wrap (n + 1)))) ty k)) :
    Fn Tryz.prog B 116 #[.pointer (some ⟨b, o, none⟩), .int .i64 old, .int .i64 new] σ K := by
  have hlt : o + 1 < c.size := (Array.getElem?_eq_some_iff.1 hn).1
  have hx' : (c.setIfInBounds (o + 1) (.int .i64 (IntKind.i64.wrap (n + 1))))[o]? = some (.int .i64 x) := by rw [Array.getElem?_setIfInBounds_ne (by omega)]; exact hx
  refine Fn.of' is116 (by simp) fun hwf => ?_
  have hb := (hwf.2 b _ hm).2
  simp only [b116, Tryz.f116, Option.getD_some]
  simp -implicitDefEqProofs (disch := first | omega | (simp only [St.set_n, St.up_n, List.length_cons, List.length_nil]; omega)) only [go_sem, Nat.reduceAdd, Nat.reduceMul, Nat.reduceSub, Int.reduceAdd, Int.reduceMul, Int.reduceSub, Int.reduceNeg, Int.reduceToNat, hm]
  refine callF_of (accessI (c := c) (ty := ty) (n := n) (by simp -implicitDefEqProofs (disch := first | omega | (simp only [St.set_n, St.up_n, List.length_cons, List.length_nil]; omega)) only [go_sem, Nat.reduceAdd, Nat.reduceMul, Nat.reduceSub, Int.reduceAdd, Int.reduceMul, Int.reduceSub, Int.reduceNeg, Int.reduceToNat, hm]) hn ?_)
  simp -implicitDefEqProofs (disch := first | omega | (simp only [St.set_n, St.up_n, List.length_cons, List.length_nil]; omega)) only [go_sem, Nat.reduceAdd, Nat.reduceMul, Nat.reduceSub, Int.reduceAdd, Int.reduceMul, Int.reduceSub, Int.reduceNeg, Int.reduceToNat]
  refine Fn.of is121 (by simp) fun hwf' => ?_
  simp only [b121, Tryz.f121, Option.getD_some]
  simp -implicitDefEqProofs (disch := first | omega | (simp only [St.set_n, St.up_n, List.length_cons, List.length_nil]; omega)) only [go_sem, Nat.reduceAdd, Nat.reduceMul, Nat.reduceSub, Int.reduceAdd, Int.reduceMul, Int.reduceSub, Int.reduceNeg, Int.reduceToNat, hx']
  refine effD_tail (by kernel_rfl) ?_
  simp -implicitDefEqProofs (disch := first | omega | (simp only [St.set_n, St.up_n, List.length_cons, List.length_nil]; omega)) only [go_sem, Nat.reduceAdd, Nat.reduceMul, Nat.reduceSub, Int.reduceAdd, Int.reduceMul, Int.reduceSub, Int.reduceNeg, Int.reduceToNat]
  by_cases h : x = old
  · subst h
    simp -implicitDefEqProofs (disch := first | omega | (simp only [St.set_n, St.up_n, List.length_cons, List.length_nil]; omega)) only [go_sem, Nat.reduceAdd, Nat.reduceMul, Nat.reduceSub, Int.reduceAdd, Int.reduceMul, Int.reduceSub, Int.reduceNeg, Int.reduceToNat, hx']
    refine ⟨_, To.obj (b := b) (by simp -implicitDefEqProofs (disch := first | omega | (simp only [St.set_n, St.up_n, List.length_cons, List.length_nil]; omega)) only [go_sem, Nat.reduceAdd, Nat.reduceMul, Nat.reduceSub, Int.reduceAdd, Int.reduceMul, Int.reduceSub, Int.reduceNeg, Int.reduceToNat] <;> rfl) (fun d y h1 h2 h3 => by simp -implicitDefEqProofs (disch := first | omega | (simp only [St.set_n, St.up_n, List.length_cons, List.length_nil]; omega)) only [go_sem, Nat.reduceAdd, Nat.reduceMul, Nat.reduceSub, Int.reduceAdd, Int.reduceMul, Int.reduceSub, Int.reduceNeg, Int.reduceToNat, h3]) hwf, ?_⟩
    simp only [if_true, decide_true] at hK
    exact hK _ (by simp only [St.up_n, St.set_n]; omega)
  · simp -implicitDefEqProofs (disch := first | omega | (simp only [St.set_n, St.up_n, List.length_cons, List.length_nil]; omega)) only [go_sem, Nat.reduceAdd, Nat.reduceMul, Nat.reduceSub, Int.reduceAdd, Int.reduceMul, Int.reduceSub, Int.reduceNeg, Int.reduceToNat, h]
    refine ⟨_, To.obj (b := b) (by simp -implicitDefEqProofs (disch := first | omega | (simp only [St.set_n, St.up_n, List.length_cons, List.length_nil]; omega)) only [go_sem, Nat.reduceAdd, Nat.reduceMul, Nat.reduceSub, Int.reduceAdd, Int.reduceMul, Int.reduceSub, Int.reduceNeg, Int.reduceToNat] <;> rfl) (fun d y h1 h2 h3 => by simp -implicitDefEqProofs (disch := first | omega | (simp only [St.set_n, St.up_n, List.length_cons, List.length_nil]; omega)) only [go_sem, Nat.reduceAdd, Nat.reduceMul, Nat.reduceSub, Int.reduceAdd, Int.reduceMul, Int.reduceSub, Int.reduceNeg, Int.reduceToNat, h3]) hwf, ?_⟩
    simp only [h, if_false, decide_false] at hK
    exact hK _ (by simp only [St.up_n, St.set_n]; omega)
theorem casI_none {old new : Int} (hK : ∀ k, σ.n ≤ k → K (.bool false) (σ.up k)) : Fn Tryz.prog B 116 #[.pointer none, .int .i64 old, .int .i64 new] σ K := by
  refine Fn.of' is116 (by simp) fun hwf => ?_
  simp only [b116, Tryz.f116, Option.getD_some]
  simp -implicitDefEqProofs (disch := first | omega | (simp only [St.set_n, St.up_n, List.length_cons, List.length_nil]; omega)) only [go_sem, Nat.reduceAdd, Nat.reduceMul, Nat.reduceSub, Int.reduceAdd, Int.reduceMul, Int.reduceSub, Int.reduceNeg, Int.reduceToNat]
  refine callF_of (accessI_none ?_)
  simp -implicitDefEqProofs (disch := first | omega | (simp only [St.set_n, St.up_n, List.length_cons, List.length_nil]; omega)) only [go_sem, Nat.reduceAdd, Nat.reduceMul, Nat.reduceSub, Int.reduceAdd, Int.reduceMul, Int.reduceSub, Int.reduceNeg, Int.reduceToNat]
  refine ⟨_, To.same (fun d y h2 h3 => by simp -implicitDefEqProofs (disch := first | omega | (simp only [St.set_n, St.up_n, List.length_cons, List.length_nil]; omega)) only [go_sem, Nat.reduceAdd, Nat.reduceMul, Nat.reduceSub, Int.reduceAdd, Int.reduceMul, Int.reduceSub, Int.reduceNeg, Int.reduceToNat, h3]) hwf, ?_⟩
  exact hK _ (by simp only [St.up_n, St.set_n]; omega)
end
end Go.Proofs.YtdbgeahmhfocaaaGreat

/- What a lock's functions come to: contracts, by walks. -/
namespace Go.Proofs.YtdbgeahmhfocaaaGreat
set_option linter.unusedSimpArgs false
set_option linter.unusedVariables false
open Go Go.RowKit
section
variable {B : World} {σ : St} {K : Value → St → Prop} {b o : Nat} {c : Array Value} {ty : TypeId} {x n k u : Int}

theorem lock_owner (hm : σ.m b = some (.raw (.cells c ty (0, 0)))) (hx : c[o]? = some (.int .i64 x)) (hK : K (.int .i64 x) σ) : Fn Tryz.prog B 52 #[.pointer (some ⟨b, o, none⟩)] σ K := by
  refine Fn.of is52 (by simp) fun hwf => ?_
  simp only [b52, Tryz.f52, Option.getD_some]
  simp -implicitDefEqProofs (disch := first | omega | (simp only [St.set_n, St.up_n, List.length_cons, List.length_nil]; omega)) only [go_sem, Nat.reduceAdd, Nat.reduceMul, Nat.reduceSub, Int.reduceAdd, Int.reduceMul, Int.reduceSub, Int.reduceNeg, Int.reduceToNat]
  refine callF_of (peekI hm hx ?_)
  simp -implicitDefEqProofs (disch := first | omega | (simp only [St.set_n, St.up_n, List.length_cons, List.length_nil]; omega)) only [go_sem, Nat.reduceAdd, Nat.reduceMul, Nat.reduceSub, Int.reduceAdd, Int.reduceMul, Int.reduceSub, Int.reduceNeg, Int.reduceToNat]
  exact hK
theorem lock_owner_none (hK : K (.int .i64 0) σ) : Fn Tryz.prog B 52 #[.pointer none] σ K := by
  refine Fn.of is52 (by simp) fun hwf => ?_
  simp only [b52, Tryz.f52, Option.getD_some]
  simp -implicitDefEqProofs (disch := first | omega | (simp only [St.set_n, St.up_n, List.length_cons, List.length_nil]; omega)) only [go_sem, Nat.reduceAdd, Nat.reduceMul, Nat.reduceSub, Int.reduceAdd, Int.reduceMul, Int.reduceSub, Int.reduceNeg, Int.reduceToNat]
  exact hK
theorem lock_try_none (hK : K (.bool false) σ) : Fn Tryz.prog B 115 #[.pointer none, .int .i64 u] σ K := by
  refine Fn.of is115 (by simp) fun hwf => ?_
  simp only [b115, Tryz.f115, Option.getD_some]
  simp -implicitDefEqProofs (disch := first | omega | (simp only [St.set_n, St.up_n, List.length_cons, List.length_nil]; omega)) only [go_sem, Nat.reduceAdd, Nat.reduceMul, Nat.reduceSub, Int.reduceAdd, Int.reduceMul, Int.reduceSub, Int.reduceNeg, Int.reduceToNat]
  exact hK
theorem lock_free_none (hK : K (.int .i64 9) σ) : Fn Tryz.prog B 100 #[.pointer none, .int .i64 u] σ K := by
  refine Fn.of is100 (by simp) fun hwf => ?_
  simp only [b100, Tryz.f100, Option.getD_some]
  simp -implicitDefEqProofs (disch := first | omega | (simp only [St.set_n, St.up_n, List.length_cons, List.length_nil]; omega)) only [go_sem, Nat.reduceAdd, Nat.reduceMul, Nat.reduceSub, Int.reduceAdd, Int.reduceMul, Int.reduceSub, Int.reduceNeg, Int.reduceToNat]
  exact hK

/-- A lock's three cells behind a try to hold it, and behind a try to free it. -/
def tryC (c : Array Value) (o : Nat) (x n k u : Int) : Array Value :=
  if u < 1 then c else if x = 0 then ((c.setIfInBounds (o + 1) (.int .i64 (IntKind.i64.wrap (n + 1)))).setIfInBounds o (.int .i64 u)).setIfInBounds (o + 2) (.int .i64 (IntKind.i64.wrap (k + 1)))
  else c.setIfInBounds (o + 1) (.int .i64 (IntKind.i64.wrap (n + 1)))
def tryB (x u : Int) : Bool := if u < 1 then false else decide (x = 0)
def freeC (c : Array Value) (o : Nat) (x n u : Int) : Array Value :=
  if u < 1 then c else if x = u then (c.setIfInBounds (o + 1) (.int .i64 (IntKind.i64.wrap (n + 1)))).setIfInBounds o (.int .i64 0)
  else c.setIfInBounds (o + 1) (.int .i64 (IntKind.i64.wrap (n + 1)))
def freeE (x u : Int) : Int := if u < 1 then 9 else if x = u then 0 else 9

theorem set_raw_same (hm : σ.m b = some (.raw (.cells c ty (0, 0)))) : σ.set b (.raw (.cells c ty (0, 0))) = σ := by
  simp only [St.set]
  cases σ
  simp only [St.mk.injEq, and_true]
  funext y
  split
  · rename_i e; subst e; exact hm.symm
  · rfl
theorem leftAs_same (hm : σ.m b = some (.raw (.cells c ty (0, 0)))) : leftAs σ b c ty σ.n = σ := by
  simp only [leftAs, set_raw_same hm, St.up_self]

theorem lock_try (hm : σ.m b = some (.raw (.cells c ty (0, 0)))) (hx : c[o]? = some (.int .i64 x)) (hn : c[o + 1]? = some (.int .i64 n)) (hk : c[o + 2]? = some (.int .i64 k))
    (hK : ∀ j, σ.n ≤ j → K (.bool (tryB x u)) (leftAs σ b (tryC c o x n k u) ty j)) : Fn Tryz.prog B 115 #[.pointer (some ⟨b, o, none⟩), .int .i64 u] σ K := by
  have hlt : o + 2 < c.size := (Array.getElem?_eq_some_iff.1 hk).1
  refine Fn.of is115 (by simp) fun hwf => ?_
  simp only [b115, Tryz.f115, Option.getD_some]
  simp -implicitDefEqProofs (disch := first | omega | (simp only [St.set_n, St.up_n, List.length_cons, List.length_nil]; omega)) only [go_sem, Nat.reduceAdd, Nat.reduceMul, Nat.reduceSub, Int.reduceAdd, Int.reduceMul, Int.reduceSub, Int.reduceNeg, Int.reduceToNat]
  by_cases h1 : u < 1
  · simp -implicitDefEqProofs (disch := first | omega | (simp only [St.set_n, St.up_n, List.length_cons, List.length_nil]; omega)) only [go_sem, Nat.reduceAdd, Nat.reduceMul, Nat.reduceSub, Int.reduceAdd, Int.reduceMul, Int.reduceSub, Int.reduceNeg, Int.reduceToNat, h1]
    have := hK σ.n (Nat.le_refl _)
    simpa only [tryB, tryC, h1, if_true, leftAs_same hm] using this
  simp -implicitDefEqProofs (disch := first | omega | (simp only [St.set_n, St.up_n, List.length_cons, List.length_nil]; omega)) only [go_sem, Nat.reduceAdd, Nat.reduceMul, Nat.reduceSub, Int.reduceAdd, Int.reduceMul, Int.reduceSub, Int.reduceNeg, Int.reduceToNat, h1]
  refine callF_of (casI hm hx hn fun j hj => ?_)
  unfold leftAs
  simp -implicitDefEqProofs (disch := first | omega | (simp only [St.set_n, St.up_n, List.length_cons, List.length_nil]; omega)) only [go_sem, Nat.reduceAdd, Nat.reduceMul, Nat.reduceSub, Int.reduceAdd, Int.reduceMul, Int.reduceSub, Int.reduceNeg, Int.reduceToNat]
  simp only [tryB, tryC, h1, if_false] at hK
  by_cases h0 : x = 0
  · have h2 : ((c.setIfInBounds (o + 1) (.int .i64 (IntKind.i64.wrap (n + 1)))).setIfInBounds o (.int .i64 u))[o + 2]? = some (.int .i64 k) := by
      rw [Array.getElem?_setIfInBounds_ne (by omega), Array.getElem?_setIfInBounds_ne (by omega)]; exact hk
    simp -implicitDefEqProofs (disch := first | omega | (simp only [St.set_n, St.up_n, List.length_cons, List.length_nil]; omega)) only [go_sem, Nat.reduceAdd, Nat.reduceMul, Nat.reduceSub, Int.reduceAdd, Int.reduceMul, Int.reduceSub, Int.reduceNeg, Int.reduceToNat, h0, h2]
    simp only [h0, if_true, decide_true] at hK
    exact hK j hj
  · simp -implicitDefEqProofs (disch := first | omega | (simp only [St.set_n, St.up_n, List.length_cons, List.length_nil]; omega)) only [go_sem, Nat.reduceAdd, Nat.reduceMul, Nat.reduceSub, Int.reduceAdd, Int.reduceMul, Int.reduceSub, Int.reduceNeg, Int.reduceToNat, h0]
    simp only [h0, if_false, decide_false] at hK
    exact hK j hj
theorem lock_free (hm : σ.m b = some (.raw (.cells c ty (0, 0)))) (hx : c[o]? = some (.int .i64 x)) (hn : c[o + 1]? = some (.int .i64 n))
    (hK : ∀ j, σ.n ≤ j → K (.int .i64 (freeE x u)) (leftAs σ b (freeC c o x n u) ty j)) : Fn Tryz.prog B 100 #[.pointer (some ⟨b, o, none⟩), .int .i64 u] σ K := by
  have hlt : o + 1 < c.size := (Array.getElem?_eq_some_iff.1 hn).1
  refine Fn.of is100 (by simp) fun hwf => ?_
  simp only [b100, Tryz.f100, Option.getD_some]
  simp -implicitDefEqProofs (disch := first | omega | (simp only [St.set_n, St.up_n, List.length_cons, List.length_nil]; omega)) only [go_sem, Nat.reduceAdd, Nat.reduceMul, Nat.reduceSub, Int.reduceAdd, Int.reduceMul, Int.reduceSub, Int.reduceNeg, Int.reduceToNat]
  by_cases h1 : u < 1
  · simp -implicitDefEqProofs (disch := first | omega | (simp only [St.set_n, St.up_n, List.length_cons, List.length_nil]; omega)) only [go_sem, Nat.reduceAdd, Nat.reduceMul, Nat.reduceSub, Int.reduceAdd, Int.reduceMul, Int.reduceSub, Int.reduceNeg, Int.reduceToNat, h1]
    have := hK σ.n (Nat.le_refl _)
    simpa only [freeE, freeC, h1, if_true, leftAs_same hm] using this
  simp -implicitDefEqProofs (disch := first | omega | (simp only [St.set_n, St.up_n, List.length_cons, List.length_nil]; omega)) only [go_sem, Nat.reduceAdd, Nat.reduceMul, Nat.reduceSub, Int.reduceAdd, Int.reduceMul, Int.reduceSub, Int.reduceNeg, Int.reduceToNat, h1]
  refine callF_of (casI hm hx hn fun j hj => ?_)
  unfold leftAs
  simp -implicitDefEqProofs (disch := first | omega | (simp only [St.set_n, St.up_n, List.length_cons, List.length_nil]; omega)) only [go_sem, Nat.reduceAdd, Nat.reduceMul, Nat.reduceSub, Int.reduceAdd, Int.reduceMul, Int.reduceSub, Int.reduceNeg, Int.reduceToNat]
  simp only [freeE, freeC, h1, if_false] at hK
  by_cases h0 : x = u
  · simp -implicitDefEqProofs (disch := first | omega | (simp only [St.set_n, St.up_n, List.length_cons, List.length_nil]; omega)) only [go_sem, Nat.reduceAdd, Nat.reduceMul, Nat.reduceSub, Int.reduceAdd, Int.reduceMul, Int.reduceSub, Int.reduceNeg, Int.reduceToNat, h0]
    simp only [h0, if_true] at hK
    exact hK j hj
  · simp -implicitDefEqProofs (disch := first | omega | (simp only [St.set_n, St.up_n, List.length_cons, List.length_nil]; omega)) only [go_sem, Nat.reduceAdd, Nat.reduceMul, Nat.reduceSub, Int.reduceAdd, Int.reduceMul, Int.reduceSub, Int.reduceNeg, Int.reduceToNat, h0]
    simp only [h0, if_false] at hK
    exact hK j hj

/-! ### Of no group there is nothing -/
theorem at_none {i : Int} (hK : K (.pointer none) σ) : Fn Tryz.prog B 51 #[.pointer none, .int .i64 i] σ K := by
  refine Fn.of is51 (by simp) fun hwf => ?_
  simp only [b51, Tryz.f51, Option.getD_some]
  simp -implicitDefEqProofs (disch := first | omega | (simp only [St.set_n, St.up_n, List.length_cons, List.length_nil]; omega)) only [go_sem, Nat.reduceAdd, Nat.reduceMul, Nat.reduceSub, Int.reduceAdd, Int.reduceMul, Int.reduceSub, Int.reduceNeg, Int.reduceToNat]
  exact hK
theorem len_none (hK : K (.int .i64 0) σ) : Fn Tryz.prog B 50 #[.pointer none] σ K := by
  refine Fn.of is50 (by simp) fun hwf => ?_
  simp only [b50, Tryz.f50, Option.getD_some]
  simp -implicitDefEqProofs (disch := first | omega | (simp only [St.set_n, St.up_n, List.length_cons, List.length_nil]; omega)) only [go_sem, Nat.reduceAdd, Nat.reduceMul, Nat.reduceSub, Int.reduceAdd, Int.reduceMul, Int.reduceSub, Int.reduceNeg, Int.reduceToNat]
  exact hK
end
end Go.Proofs.YtdbgeahmhfocaaaGreat

/- Groups of locks, and the document's own: contracts, by walks. -/
namespace Go.Proofs.YtdbgeahmhfocaaaGreat
set_option linter.unusedSimpArgs false
set_option linter.unusedVariables false
open Go Go.RowKit
section
variable {B : World} {σ : St} {K : Value → St → Prop}

/-- A lock: who holds it, how often its cell was used, how often it was held. -/
abbrev Lk := Int × Int × Int
def fLk (x : Lk) : List Value := [.int .i64 x.1, .int .i64 x.2.1, .int .i64 x.2.2]
def fI (x : Int) : List Value := [.int .i64 x]
theorem fLk_len (x : Lk) : (fLk x).length = 3 := rfl
theorem fI_len (x : Int) : (fI x).length = 1 := rfl
def tryT (x : Lk) (u : Int) : Lk := if u < 1 then x else if x.1 = 0 then (u, IntKind.i64.wrap (x.2.1 + 1), IntKind.i64.wrap (x.2.2 + 1)) else (x.1, IntKind.i64.wrap (x.2.1 + 1), x.2.2)
def freeT (x : Lk) (u : Int) : Lk := if u < 1 then x else if x.1 = u then (0, IntKind.i64.wrap (x.2.1 + 1), x.2.2) else (x.1, IntKind.i64.wrap (x.2.1 + 1), x.2.2)

theorem toA_set (l : List Value) (i : Nat) (v : Value) : l.toArray.setIfInBounds i v = (l.set i v).toArray := by simp
theorem set_one {L : List Lk} {i : Nat} {x : Lk} (h : L[i]? = some x) (n : Int) : (flat fLk L).set (i * 3 + 1) (.int .i64 n) = flat fLk (L.set i (x.1, n, x.2.2)) := by
  have := flat_set fLk_len L [] i x (x.1, n, x.2.2) 1 (.int .i64 n) h (by omega) rfl
  simpa using this
theorem set_zero {L : List Lk} {i : Nat} {x : Lk} (h : L[i]? = some x) (n : Int) : (flat fLk L).set (i * 3) (.int .i64 n) = flat fLk (L.set i (n, x.2.1, x.2.2)) := by
  have := flat_set fLk_len L [] i x (n, x.2.1, x.2.2) 0 (.int .i64 n) h (by omega) rfl
  simpa using this
theorem set_two {L : List Lk} {i : Nat} {x : Lk} (h : L[i]? = some x) (n : Int) : (flat fLk L).set (i * 3 + 2) (.int .i64 n) = flat fLk (L.set i (x.1, x.2.1, n)) := by
  have := flat_set fLk_len L [] i x (x.1, x.2.1, n) 2 (.int .i64 n) h (by omega) rfl
  simpa using this
theorem get_set {L : List Lk} {i : Nat} {x y : Lk} (h : L[i]? = some x) : (L.set i y)[i]? = some y := by
  have := (List.getElem?_eq_some_iff.1 h).1
  simp [this]
theorem tryC_flat {L : List Lk} {i : Nat} {x : Lk} (h : L[i]? = some x) (u : Int) : tryC (flat fLk L).toArray (i * 3) x.1 x.2.1 x.2.2 u = (flat fLk (L.set i (tryT x u))).toArray := by
  unfold tryC tryT
  by_cases h1 : u < 1
  · simp only [h1, if_true]
    have : L.set i x = L := by
      obtain ⟨hl, hx⟩ := List.getElem?_eq_some_iff.1 h
      rw [← hx]; simp
    rw [this]
  · by_cases h0 : x.1 = 0
    · simp only [h1, h0, if_true, if_false, toA_set]
      rw [set_one h, set_zero (get_set h), set_two (get_set (get_set h))]
      simp
    · simp only [h1, h0, if_false, toA_set]
      rw [set_one h]
theorem freeC_flat {L : List Lk} {i : Nat} {x : Lk} (h : L[i]? = some x) (u : Int) : freeC (flat fLk L).toArray (i * 3) x.1 x.2.1 u = (flat fLk (L.set i (freeT x u))).toArray := by
  unfold freeC freeT
  by_cases h1 : u < 1
  · simp only [h1, if_true]
    have : L.set i x = L := by
      obtain ⟨hl, hx⟩ := List.getElem?_eq_some_iff.1 h
      rw [← hx]; simp
    rw [this]
  · by_cases h0 : x.1 = u
    · simp only [h1, h0, if_true, if_false, toA_set]
      rw [set_one h, set_zero (get_set h)]
      simp
    · simp only [h1, h0, if_false, toA_set]
      rw [set_one h]

/-- A group in memory: its struct at 'g', its locks at 'b' (if it has any). -/
def IsGroup (σ : St) (g b : Nat) (L : List Lk) : Prop :=
  (L = [] ∧ σ.m g = some (.raw (.cells #[.slice none 0 0] 138 (0, 0)))) ∨
  (σ.m g = some (.raw (.cells #[.slice (some ⟨b, 0, none⟩) L.length L.length] 138 (0, 0))) ∧ σ.m b = some (.raw (.cells (flat fLk L).toArray 168 (0, 0))))
theorem lk_cells {L : List Lk} {i : Nat} {x : Lk} (h : L[i]? = some x) :
    (flat fLk L).toArray[i * 3]? = some (.int .i64 x.1) ∧ (flat fLk L).toArray[i * 3 + 1]? = some (.int .i64 x.2.1) ∧ (flat fLk L).toArray[i * 3 + 2]? = some (.int .i64 x.2.2) := by
  have h0 := flat_get fLk_len L [] i x 0 _ h rfl
  have h1 := flat_get fLk_len L [] i x 1 _ h rfl
  have h2 := flat_get fLk_len L [] i x 2 _ h rfl
  simp only [List.append_nil, Nat.add_zero] at h0 h1 h2
  simp [h0, h1, h2]

theorem group_len {g b : Nat} {L : List Lk} (hg : IsGroup σ g b L) (hK : K (.int .i64 L.length) σ) : Fn Tryz.prog B 50 #[.pointer (some ⟨g, 0, none⟩)] σ K := by
  refine Fn.of is50 (by simp) fun hwf => ?_
  simp only [b50, Tryz.f50, Option.getD_some]
  rcases hg with ⟨rfl, hg⟩ | ⟨hg, _⟩
  · simp -implicitDefEqProofs (disch := first | omega | (simp only [St.set_n, St.up_n, List.length_cons, List.length_nil]; omega)) only [go_sem, Nat.reduceAdd, Nat.reduceMul, Nat.reduceSub, Int.reduceAdd, Int.reduceMul, Int.reduceSub, Int.reduceNeg, Int.reduceToNat, hg]
    exact hK
  · simp -implicitDefEqProofs (disch := first | omega | (simp only [St.set_n, St.up_n, List.length_cons, List.length_nil]; omega)) only [go_sem, Nat.reduceAdd, Nat.reduceMul, Nat.reduceSub, Int.reduceAdd, Int.reduceMul, Int.reduceSub, Int.reduceNeg, Int.reduceToNat, hg]
    exact hK
theorem group_at {g b : Nat} {L : List Lk} (hg : IsGroup σ g b L) {i : Nat} (hi : i < L.length) (hK : K (.pointer (some ⟨b, i * 3, none⟩)) σ) : Fn Tryz.prog B 51 #[.pointer (some ⟨g, 0, none⟩), .int .i64 i] σ K := by
  refine Fn.of is51 (by simp) fun hwf => ?_
  simp only [b51, Tryz.f51, Option.getD_some]
  rcases hg with ⟨rfl, hg⟩ | ⟨hg, _⟩
  · simp at hi
  · simp -implicitDefEqProofs (disch := first | omega | (simp only [St.set_n, St.up_n, List.length_cons, List.length_nil]; omega)) only [go_sem, Nat.reduceAdd, Nat.reduceMul, Nat.reduceSub, Int.reduceAdd, Int.reduceMul, Int.reduceSub, Int.reduceNeg, Int.reduceToNat, hg]
    exact hK
theorem group_at_none {g b : Nat} {L : List Lk} (hg : IsGroup σ g b L) {i : Int} (hi : ¬ (0 ≤ i ∧ i < L.length)) (hK : K (.pointer none) σ) : Fn Tryz.prog B 51 #[.pointer (some ⟨g, 0, none⟩), .int .i64 i] σ K := by
  refine Fn.of is51 (by simp) fun hwf => ?_
  simp only [b51, Tryz.f51, Option.getD_some]
  by_cases h0 : i < 0
  · simp -implicitDefEqProofs (disch := first | omega | (simp only [St.set_n, St.up_n, List.length_cons, List.length_nil]; omega)) only [go_sem, Nat.reduceAdd, Nat.reduceMul, Nat.reduceSub, Int.reduceAdd, Int.reduceMul, Int.reduceSub, Int.reduceNeg, Int.reduceToNat, h0]
    exact hK
  · have h1 : (L.length : Int) ≤ i := by omega
    rcases hg with ⟨rfl, hg⟩ | ⟨hg, _⟩
    · have h2 : (0 : Int) ≤ i := by omega
      simp -implicitDefEqProofs (disch := first | omega | (simp only [St.set_n, St.up_n, List.length_cons, List.length_nil]; omega)) only [go_sem, Nat.reduceAdd, Nat.reduceMul, Nat.reduceSub, Int.reduceAdd, Int.reduceMul, Int.reduceSub, Int.reduceNeg, Int.reduceToNat, hg, h0, h2]
      exact hK
    · simp -implicitDefEqProofs (disch := first | omega | (simp only [St.set_n, St.up_n, List.length_cons, List.length_nil]; omega)) only [go_sem, Nat.reduceAdd, Nat.reduceMul, Nat.reduceSub, Int.reduceAdd, Int.reduceMul, Int.reduceSub, Int.reduceNeg, Int.reduceToNat, hg, h0, h1]
      exact hK
theorem zc_flat {z : Value} (h : z.cells = #[.int .i64 0, .int .i64 0, .int .i64 0]) : ∀ n : Nat, zc z (n * 3) = (flat fLk (List.replicate n (0, 0, 0))).toArray := by
  intro n
  have hl : (zc z (n * 3)).size = n * 3 := by simp [zc, zcells]
  apply Array.ext
  · rw [hl]; simp [flat_length fLk_len]
  · intro i h1 h2
    rw [hl] at h1
    have hi : i = i / 3 * 3 + i % 3 := by omega
    have hq : i / 3 < n := by omega
    have hL : (List.replicate n ((0, 0, 0) : Lk))[i / 3]? = some (0, 0, 0) := by simp [hq]
    have e1 : (zc z (n * 3))[i]? = some (.int .i64 0) := by
      simp only [zc, zcells, h, Array.getElem?_map]
      rw [Array.getElem?_range]
      simp only [h1, if_true, Option.map_some, List.size_toArray, List.length_cons, List.length_nil]
      have : i % 3 = 0 ∨ i % 3 = 1 ∨ i % 3 = 2 := by omega
      rcases this with h3 | h3 | h3 <;> simp [h3]
    have e2 : (flat fLk (List.replicate n (0, 0, 0))).toArray[i]? = some (.int .i64 0) := by
      have h3 : i % 3 = 0 ∨ i % 3 = 1 ∨ i % 3 = 2 := by omega
      have := flat_get fLk_len (List.replicate n (0, 0, 0)) [] (i / 3) (0, 0, 0) (i % 3) (.int .i64 0) hL (by rcases h3 with h3 | h3 | h3 <;> simp [h3, fLk])
      rw [← hi] at this
      simpa using this
    rw [Array.getElem?_eq_getElem (by rw [hl]; exact h1)] at e1
    rw [Array.getElem?_eq_getElem h2] at e2
    exact Option.some.inj (e1.trans e2.symm)
/-- How many locks a group of 'n' has. -/
def groupN (n : Int) : Nat := if 1 ≤ n ∧ n ≤ 1024 then n.toNat else 0
theorem locks {n : Int} (hK : ∀ k τ, σ.n ≤ k → k < τ.n → IsGroup τ k σ.n (List.replicate (groupN n) (0, 0, 0)) → (∀ c x, c < σ.n → σ.m c = some x → τ.m c = some x) → (groupN n = 0 ∨ σ.n ≠ k) → K (.pointer (some ⟨k, 0, none⟩)) τ) : Fn Tryz.prog B 25 #[.int .i64 n] σ K := by
  refine Fn.of is25 (by simp) fun hwf => ?_
  simp only [b25, Tryz.f25, Option.getD_some]
  by_cases h1 : n < 1
  · simp -implicitDefEqProofs (disch := first | omega | (simp only [St.set_n, St.up_n, List.length_cons, List.length_nil]; omega)) only [go_sem, Nat.reduceAdd, Nat.reduceMul, Nat.reduceSub, Int.reduceAdd, Int.reduceMul, Int.reduceSub, Int.reduceNeg, Int.reduceToNat, h1]
    have hg : groupN n = 0 := by unfold groupN; rw [if_neg (by omega)]
    refine hK _ _ (Nat.le_refl _) (by simp) ?_ (fun c x hc hx => by simp -implicitDefEqProofs (disch := first | omega | (simp only [St.set_n, St.up_n, List.length_cons, List.length_nil]; omega)) only [go_sem, Nat.reduceAdd, Nat.reduceMul, Nat.reduceSub, Int.reduceAdd, Int.reduceMul, Int.reduceSub, Int.reduceNeg, Int.reduceToNat, hx]) (.inl hg)
    rw [hg]
    exact .inl ⟨rfl, by simp -implicitDefEqProofs (disch := first | omega | (simp only [St.set_n, St.up_n, List.length_cons, List.length_nil]; omega)) only [go_sem, Nat.reduceAdd, Nat.reduceMul, Nat.reduceSub, Int.reduceAdd, Int.reduceMul, Int.reduceSub, Int.reduceNeg, Int.reduceToNat]⟩
  · by_cases h2 : n > 1024
    · simp -implicitDefEqProofs (disch := first | omega | (simp only [St.set_n, St.up_n, List.length_cons, List.length_nil]; omega)) only [go_sem, Nat.reduceAdd, Nat.reduceMul, Nat.reduceSub, Int.reduceAdd, Int.reduceMul, Int.reduceSub, Int.reduceNeg, Int.reduceToNat, h1, h2]
      have hg : groupN n = 0 := by unfold groupN; rw [if_neg (by omega)]
      refine hK _ _ (Nat.le_refl _) (by simp) ?_ (fun c x hc hx => by simp -implicitDefEqProofs (disch := first | omega | (simp only [St.set_n, St.up_n, List.length_cons, List.length_nil]; omega)) only [go_sem, Nat.reduceAdd, Nat.reduceMul, Nat.reduceSub, Int.reduceAdd, Int.reduceMul, Int.reduceSub, Int.reduceNeg, Int.reduceToNat, hx]) (.inl hg)
      rw [hg]
      exact .inl ⟨rfl, by simp -implicitDefEqProofs (disch := first | omega | (simp only [St.set_n, St.up_n, List.length_cons, List.length_nil]; omega)) only [go_sem, Nat.reduceAdd, Nat.reduceMul, Nat.reduceSub, Int.reduceAdd, Int.reduceMul, Int.reduceSub, Int.reduceNeg, Int.reduceToNat]⟩
    · simp -implicitDefEqProofs (disch := first | omega | (simp only [St.set_n, St.up_n, List.length_cons, List.length_nil]; omega)) only [go_sem, Nat.reduceAdd, Nat.reduceMul, Nat.reduceSub, Int.reduceAdd, Int.reduceMul, Int.reduceSub, Int.reduceNeg, Int.reduceToNat, h1, h2]
      have hg : groupN n = n.toNat := by unfold groupN; rw [if_pos (by omega)]
      refine hK _ _ (by omega) (by simp) ?_ (fun c x hc hx => by simp -implicitDefEqProofs (disch := first | omega | (simp only [St.set_n, St.up_n, List.length_cons, List.length_nil]; omega)) only [go_sem, Nat.reduceAdd, Nat.reduceMul, Nat.reduceSub, Int.reduceAdd, Int.reduceMul, Int.reduceSub, Int.reduceNeg, Int.reduceToNat, hx]) (.inr (by omega))
      rw [hg]
      refine .inr ⟨?_, ?_⟩
      · simp -implicitDefEqProofs (disch := first | omega | (simp only [St.set_n, St.up_n, List.length_cons, List.length_nil]; omega)) only [go_sem, Nat.reduceAdd, Nat.reduceMul, Nat.reduceSub, Int.reduceAdd, Int.reduceMul, Int.reduceSub, Int.reduceNeg, Int.reduceToNat]
        simp
      · simp -implicitDefEqProofs (disch := first | omega | (simp only [St.set_n, St.up_n, List.length_cons, List.length_nil]; omega)) only [go_sem, Nat.reduceAdd, Nat.reduceMul, Nat.reduceSub, Int.reduceAdd, Int.reduceMul, Int.reduceSub, Int.reduceNeg, Int.reduceToNat]
        rw [zc_flat rfl]
end
end Go.Proofs.YtdbgeahmhfocaaaGreat

/- Worlds, systems that grow: the general part. -/
namespace Go.Proofs.YtdbgeahmhfocaaaGreat
set_option linter.unusedSimpArgs false
set_option linter.unusedVariables false
set_option maxRecDepth 100000
open Go Go.RowKit
section
variable {B : World}
/-- A world whose memory is told by its state. -/
abbrev hLg (U A : Type) (ex : Nat → U → A → U × List A × Bool) (pre : Nat → U → A → Prop) (H : U → HF) : Lg B where
  U := U
  A := A
  ex := ex
  pre := pre
  WI := fun G u s => ∀ c y, H u c = some y → s.m c = some y ∧ ¬ G c
  fresh := fun h hF c y hy => ⟨(h c y hy).1, fun hc => by
    rcases hc with hc | hc
    · exact (h c y hy).2 hc
    · have h1 := (hF c hc).1
      rw [(h c y hy).1] at h1; cases h1⟩
  weak := fun h hG c y hy => ⟨(h c y hy).1, fun hc => (h c y hy).2 (hG c hc)⟩
  stable := fun h hk _ c y hy => ⟨hk c y (h c y hy).2 (h c y hy).1, (h c y hy).2⟩
variable {U A : Type} {ex : Nat → U → A → U × List A × Bool} {pre : Nat → U → A → Prop} {H : U → HF} {h : HF} {G : Nat → Prop} {s : St}
theorem Env.at {u : U} (he : Env (hLg (B := B) U A ex pre H) h G u s) {c : Nat} {y : HP} (hy : H u c = some y) : s.m c = some y ∧ ¬ G c ∧ h c = none := by
  obtain ⟨h1, h2⟩ := he.I c y hy
  refine ⟨h1, fun hg => h2 (.inl hg), ?_⟩
  cases hx : h c with
  | none => rfl
  | some z => exact absurd (.inr (by rw [hx]; simp)) h2
theorem Aft.world {u u' : U} {v : Value} {s' : St} (he : Env (hLg (B := B) U A ex pre H) h G u s) (hn : s.n ≤ s'.n) (hm : ∀ c y, H u c = none → s.m c = some y → s'.m c = some y) (hw : ∀ c y, H u' c = some y → s'.m c = some y ∧ H u c ≠ none) :
    Aft (hLg (B := B) U A ex pre H) (fun _ h' => h' = h) G u' s v s' := by
  have hno : ∀ c, (G c ∨ h c ≠ none) → H u c = none := fun c hc => by
    cases hx : H u c with
    | none => rfl
    | some y => exact absurd hc (he.I c y hx).2
  refine ⟨hn, fun c y hc hx => hm c y (hno c (.inl hc)) hx, h, rfl, fun c y hc => hm c y (hno c (.inr (by rw [hc]; simp))) (he.sub c y hc), he.dis, fun c y hy => ⟨(hw c y hy).1, fun hc => (hw c y hy).2 (hno c hc)⟩⟩
theorem Aft.one {u u' : U} {v : Value} {b k : Nat} {y' : HP} (he : Env (hLg (B := B) U A ex pre H) h G u s) (hb : H u b ≠ none) (hk : s.n ≤ k) (hy : H u' b = some y') (hc : ∀ c, c ≠ b → H u' c = H u c) :
    Aft (hLg (B := B) U A ex pre H) (fun _ h' => h' = h) G u' s v ((s.set b y').up k) := by
  refine Aft.world he (by simp only [St.up_n]; omega) (fun c y hn hx => ?_) fun c y hx => ?_
  · have : c ≠ b := fun e => hb (e ▸ hn)
    simp only [St.up_m]; rw [St.set_m_ne _ _ this]; exact hx
  · by_cases e : c = b
    · subst e
      rw [hy] at hx
      simp only [St.up_m]; rw [St.set_m_same]
      exact ⟨hx, hb⟩
    · rw [hc c e] at hx
      simp only [St.up_m]; rw [St.set_m_ne _ _ e]
      exact ⟨(he.at hx).1, by rw [hx]; simp⟩

/-! ### Locks -/
def lksA (N : Nat) (l : Nat → Lk) : List Lk := (List.range N).map l
theorem lksA_len (N : Nat) (l : Nat → Lk) : (lksA N l).length = N := by simp [lksA]
theorem lksA_get {N i : Nat} {l : Nat → Lk} (hi : i < N) : (lksA N l)[i]? = some (l i) := by simp [lksA, hi]
theorem lksA_set {N i : Nat} {l : Nat → Lk} {x : Lk} : (lksA N l).set i x = lksA N (updL l i x) := by
  apply List.ext_getElem?
  intro j
  by_cases hj : j < N
  · rw [lksA_get hj, List.getElem?_set]
    unfold updL
    by_cases e : i = j
    · subst e; rw [if_pos rfl, if_pos (by rw [lksA_len]; exact hj), if_pos rfl]
    · rw [if_neg e, if_neg (fun e' => e e'.symm), lksA_get hj]
  · rw [List.getElem?_eq_none (by rw [List.length_set, lksA_len]; omega), List.getElem?_eq_none (by rw [lksA_len]; omega)]
structure LkW (U : Type) (H : U → HF) (b N : Nat) where
  get : U → Nat → Lk
  set : U → (Nat → Lk) → U
  hb : ∀ u, H u b = some (.raw (.cells (flat fLk (lksA N (get u))).toArray 168 (0, 0)))
  hs : ∀ u l c, c ≠ b → H (set u l) c = H u c
  gs : ∀ u l, get (set u l) = l
variable {b N : Nat}
def lkPtr (b N : Nat) (i : Int) : Value := if 0 ≤ i ∧ i < N then .pointer (some ⟨b, i.toNat * 3, none⟩) else .pointer none
theorem lkPtr_pt (b N : Nat) (i : Int) : PtV (lkPtr b N i) := by unfold lkPtr; split <;> exact ⟨_, rfl⟩
def tryW (w : LkW U H b N) (uo i : Int) (u : U) : U := if 0 ≤ i ∧ i < N then w.set u (updL (w.get u) i.toNat (tryT (w.get u i.toNat) uo)) else u
def tryO (w : LkW U H b N) (uo i : Int) (u : U) : Bool := decide (0 ≤ i ∧ i < N) && tryB (w.get u i.toNat).1 uo
def freeW (w : LkW U H b N) (uo i : Int) (u : U) : U := if 0 ≤ i ∧ i < N then w.set u (updL (w.get u) i.toNat (freeT (w.get u i.toNat) uo)) else u
theorem Aft.same {u : U} {v : Value} (he : Env (hLg (B := B) U A ex pre H) h G u s) : Aft (hLg (B := B) U A ex pre H) (fun _ h' => h' = h) G u s v s :=
  ⟨Nat.le_refl _, fun c y _ hx => hx, h, rfl, he.sub, he.dis, he.I⟩
theorem try_ok {P : U → Prop} (w : LkW U H b N) (uo i : Int) : OpOk (hLg (B := B) U A ex pre H) P 115 #[lkPtr b N i, .int .i64 uo] (fun u r => r = .bool (tryO w uo i u)) (tryW w uo i) h := by
  intro G (u : U) s he _
  unfold lkPtr tryO tryW
  by_cases hi : 0 ≤ i ∧ i < N
  · have hg := lksA_get (l := w.get u) (show i.toNat < N by omega)
    obtain ⟨c0, c1, c2⟩ := lk_cells hg
    rw [if_pos hi, if_pos hi]
    refine lock_try (he.at (w.hb u)).1 c0 c1 c2 fun j hj => ⟨by simp [hi], ?_⟩
    unfold leftAs
    rw [tryC_flat hg, lksA_set]
    refine Aft.one he (by rw [w.hb]; simp) hj ?_ fun c hc => w.hs _ _ _ hc
    rw [w.hb, w.gs]
  · rw [if_neg hi, if_neg hi]
    exact lock_try_none ⟨by simp [hi], Aft.same he⟩
theorem free_ok {P : U → Prop} (w : LkW U H b N) (uo i : Int) : OpOk (hLg (B := B) U A ex pre H) P 100 #[lkPtr b N i, .int .i64 uo] (fun _ _ => True) (freeW w uo i) h := by
  intro G (u : U) s he _
  unfold lkPtr freeW
  by_cases hi : 0 ≤ i ∧ i < N
  · have hg := lksA_get (l := w.get u) (show i.toNat < N by omega)
    obtain ⟨c0, c1, c2⟩ := lk_cells hg
    rw [if_pos hi, if_pos hi]
    refine lock_free (he.at (w.hb u)).1 c0 c1 fun j hj => ⟨trivial, ?_⟩
    unfold leftAs
    rw [freeC_flat hg, lksA_set]
    refine Aft.one he (by rw [w.hb]; simp) hj ?_ fun c hc => w.hs _ _ _ hc
    rw [w.hb, w.gs]
  · rw [if_neg hi, if_neg hi]
    exact lock_free_none ⟨trivial, Aft.same he⟩
theorem at_ok (w : LkW U H b N) {g : Nat} (hg : ∀ u, H u g = some (.raw (.cells #[.slice (some ⟨b, 0, none⟩) N N] 138 (0, 0)))) (i : Int) : RdOk (hLg (B := B) U A ex pre H) 51 #[.pointer (some ⟨g, 0, none⟩), .int .i64 i] (lkPtr b N i) h := by
  intro G (u : U) s he
  have hG : IsGroup s g b (lksA N (w.get u)) := .inr ⟨by rw [lksA_len]; exact (he.at (hg u)).1, (he.at (w.hb u)).1⟩
  unfold lkPtr
  by_cases hi : 0 ≤ i ∧ i < N
  · obtain ⟨j, rfl⟩ : ∃ j : Nat, i = j := ⟨i.toNat, by omega⟩
    rw [if_pos hi]
    exact group_at hG (by rw [lksA_len]; omega) ⟨rfl, rfl⟩
  · rw [if_neg hi]
    exact group_at_none hG (by rw [lksA_len]; exact hi) ⟨rfl, rfl⟩

end
section
variable {B : World} {L : Lg B} {G : Nat → Prop} {s : St}
def noH : HF := fun _ => none
theorem LgI.fork {k : Nat} {x : L.U × (Nat → List L.A)} {vs : List Value} {s0 s1 : St} (hI : LgI L k G x vs s0) (hw0 : s0.wf B) (hm : ∀ c, c < s0.n → s1.m c = s0.m c) (hn : s0.n ≤ s1.n) (hw1 : s1.wf B) :
    ∃ G' : Nat → Prop, (∀ c, G c → G' c) ∧ Env L (grow noH s0 s1) G' x.1 s1 ∧
      ∀ (T : List L.A) (n : Nat) (v : Value) (s2 : St), Aft L (Rep L k n T) G' x.1 s1 v s2 → LgI L (k + 1) G (x.1, updL x.2 k T) (vs ++ [v]) s2 := by
  obtain ⟨hs, h1, h2, h3, h4, h5⟩ := hI.hs
  have hlt : ∀ t c, hs t c ≠ none → c < s0.n := fun t c hc => by
    cases hx : hs t c with
    | none => exact absurd hx hc
    | some y => exact (hw0.2 _ _ (h1 _ _ _ hx)).2
  have he0 : Env L noH (fun c => G c ∨ ∃ t, t < k ∧ hs t c ≠ none) x.1 s0 :=
    ⟨hw0, fun c y hc => (by cases hc), fun c _ => rfl, fun c hc => by
      rcases hc with hc | ⟨t, _, ht⟩
      · exact hI.lt c hc
      · exact hlt t c ht, L.weak h4 fun c hc => by
      rcases hc with (hc | ⟨t, _, ht⟩) | hc
      · exact .inl hc
      · exact .inr ⟨t, ht⟩
      · exact absurd rfl hc⟩
  refine ⟨_, fun c hc => .inl hc, he0.grow hm hn hw1, fun T n v s2 ha => ?_⟩
  obtain ⟨n1, k1, h', r1, s1', d1, i1⟩ := ha
  refine ⟨by simp [hI.len], fun c hc => by have := hI.lt c hc; omega, fun j => if j < k then hs j else if j = k then h' else noH, fun j c y hj => ?_, fun j c hc => ?_, fun j j' c hj hx => ?_, L.weak i1 fun c hc => ?_, fun j v' hj => ?_⟩
  · simp only at hj
    split at hj
    · rename_i hjk
      have hx := h1 j c y hj
      exact k1 c y (.inr ⟨j, hjk, by rw [hj]; simp⟩) (by rw [hm c (hw0.2 _ _ hx).2]; exact hx)
    · split at hj
      · exact s1' c y hj
      · cases hj
  · show (if j < k then hs j else if j = k then h' else noH) c = none
    split
    · exact h2 j c hc
    · split
      · exact d1 c (.inl hc)
      · rfl
  · show (if j' < k then hs j' else if j' = k then h' else noH) c = none
    have hx : (if j < k then hs j else if j = k then h' else noH) c ≠ none := hx
    split at hx
    · rename_i hjk
      split
      · exact h3 j j' c hj hx
      · split
        · exact d1 c (.inr ⟨j, hjk, hx⟩)
        · rfl
    · split at hx
      · rename_i hjk
        split
        · rename_i hjk'
          cases hx2 : hs j' c with
          | none => rfl
          | some y => exact absurd (d1 c (.inr ⟨j', hjk', by rw [hx2]; simp⟩)) hx
        · split
          · omega
          · rfl
      · exact absurd rfl hx
  · rcases hc with hc | ⟨j, hc⟩
    · exact .inl (.inl hc)
    · have hc : (if j < k then hs j else if j = k then h' else noH) c ≠ none := hc
      split at hc
      · rename_i hjk; exact .inl (.inr ⟨j, hjk, hc⟩)
      · split at hc
        · exact .inr hc
        · exact absurd rfl hc
  · have hl := hI.len
    by_cases hjk : j < k
    · rw [List.getElem?_append_left (by omega)] at hj
      obtain ⟨m, hm'⟩ := h5 j v' hj
      refine ⟨m, ?_⟩
      simp only [if_pos hjk, updL, if_neg (show ¬ j = k by omega)]
      exact hm'
    · have hje : j = k := by
        have := (List.getElem?_eq_some_iff.1 hj).1
        simp only [List.length_append, List.length_cons, List.length_nil, hl] at this
        omega
      subst hje
      rw [List.getElem?_append_right (by omega), hl, Nat.sub_self] at hj
      cases hj
      refine ⟨n, ?_⟩
      simp only [if_neg hjk, if_true, updL]
      exact r1
/-! ### A world with one block more that stays as it is -/
section
variable {U A : Type} {ex : Nat → U → A → U × List A × Bool} {pre : Nat → U → A → Prop} {H H' : U → HF} {q : Nat} {y : HP}
theorem Rep.ext (hq : ∀ u, H u q = none) (hH : ∀ u c, H' u c = if c = q then some y else H u c) {t : Nat} : ∀ {n : Nat} {T : List A} {v : Value} {h : HF}, Rep (hLg (B := B) U A ex pre H) t n T v h → Rep (hLg (B := B) U A ex pre H') t n T v h
  | 0, _, _, _, hr => hr
  | n + 1, [], _, _, hr => hr
  | n + 1, a :: r, v, h, hr => by
    obtain ⟨f, c1, c2, hv, hc⟩ := hr
    refine ⟨f, c1, c2, hv, fun G (u : U) s he hp => ?_⟩
    have hHq : H' u q = some y := by rw [hH, if_pos rfl]
    obtain ⟨a1, a2, a3⟩ := he.at hHq
    have he2 : Env (hLg (B := B) U A ex pre H) h (fun c => G c ∨ c = q) u s := by
      refine ⟨he.wf, he.sub, fun c hc => ?_, fun c hc => ?_, fun c z hz => ?_⟩
      · rcases hc with hc | rfl
        · exact he.dis c hc
        · exact a3
      · rcases hc with hc | rfl
        · exact he.lt c hc
        · exact (he.wf.2 _ _ a1).2
      · have hcq : c ≠ q := fun e => by rw [e, hq] at hz; cases hz
        have hz' : H' u c = some z := by rw [hH, if_neg hcq]; exact hz
        obtain ⟨b1, b2, b3⟩ := he.at hz'
        refine ⟨b1, fun hc => ?_⟩
        rcases hc with (hc | hc) | hc
        · exact b2 hc
        · exact hcq hc
        · exact hc b3
    have post : ∀ (R : Value → HF → Prop) (u' : U) v' s', Aft (hLg (B := B) U A ex pre H) R (fun c => G c ∨ c = q) u' s v' s' → Aft (hLg (B := B) U A ex pre H') R G u' s v' s' := by
      rintro R u' v' s' ⟨n1, k1, h', r1, s1, d1, i1⟩
      refine ⟨n1, fun c z hc hx => k1 c z (.inl hc) hx, h', r1, s1, fun c hc => d1 c (.inl hc), fun c z hz => ?_⟩
      rw [hH] at hz
      split at hz
      · rename_i e; subst e
        cases hz
        exact ⟨k1 _ _ (.inr rfl) a1, fun hc => hc.elim a2 fun hc => hc (d1 _ (.inr rfl))⟩
      · obtain ⟨b1, b2⟩ := i1 c z hz
        exact ⟨b1, fun hc => b2 (hc.imp .inl id)⟩
    refine (hc _ u s he2 hp).mono fun rv s' ⟨h1, h3⟩ => ⟨fun ho => ?_, fun ho => ?_⟩
    · obtain ⟨v', e1, h4⟩ := h1 ho
      exact ⟨v', e1, (post _ _ _ _ h4).mono fun h hr => Rep.ext hq hH hr⟩
    · obtain ⟨e1, h4⟩ := h3 ho
      exact ⟨e1, post _ _ _ _ h4⟩
theorem LgI.ext (hq : ∀ u, H u q = none) (hH : ∀ u c, H' u c = if c = q then some y else H u c) {k : Nat} {x : U × (Nat → List A)} {vs : List Value} {s0 s1 : St} (hI : LgI (hLg (B := B) U A ex pre H) k G x vs s0) (hw0 : s0.wf B) (hm : ∀ c, c < s0.n → s1.m c = s0.m c) (hn : s0.n ≤ s1.n)
    (hqn : s0.n ≤ q) (hy : s1.m q = some y) : LgI (hLg (B := B) U A ex pre H') k G x vs s1 := by
  obtain ⟨hs, h1, h2, h3, h4, h5⟩ := hI.hs
  have hk : ∀ c z, s0.m c = some z → s1.m c = some z := fun c z hx => by rw [hm c (hw0.2 _ _ hx).2]; exact hx
  refine ⟨hI.len, fun c hc => by have := hI.lt c hc; omega, hs, fun t c z hx => hk _ _ (h1 t c z hx), h2, h3, fun c z hz => ?_, fun t v hv => let ⟨m, hm⟩ := h5 t v hv; ⟨m, hm.ext hq hH⟩⟩
  rw [hH] at hz
  split at hz
  · rename_i e; subst e
    cases hz
    refine ⟨hy, fun hc => ?_⟩
    rcases hc with hc | ⟨t, hc⟩
    · have := hI.lt c hc; omega
    · cases hx : hs t c with
      | none => exact hc hx
      | some w => have := (hw0.2 _ _ (h1 _ _ _ hx)).2; omega
  · obtain ⟨b1, b2⟩ := h4 c z hz
    exact ⟨hk _ _ b1, b2⟩
end
/-- Something is appended to a slice that is kept. -/
theorem Sys.inv_app {Y : Sys B} {P : Nat → Prop} {x : Y.X} {vs : List Value} {w w' : Value} {s2 s' : St} (hI : Y.Inv (fun c => P c ∨ blk w = some c) x vs s2) (hw : s2.wf B) (heq : ∀ c, c < s2.n → blk w ≠ some c → s'.m c = s2.m c)
    (hb : ∀ b, blk w' = some b → s2.n ≤ b ∨ blk w = some b) (hn : s2.n ≤ s'.n) (hlt : ∀ b, blk w' = some b → b < s'.n) : Y.Inv (fun c => P c ∨ blk w' = some c) x vs s' := by
  have hI2 := Y.stable hI (s' := s2.up s'.n) (fun c y _ hx => hx) hn
  have hno : ∀ c, s2.n ≤ c → s2.m c = none := fun c hc => by
    cases hx : s2.m c with
    | none => rfl
    | some y => have := (hw.2 _ _ hx).2; omega
  cases e : blk w' with
  | none =>
    refine Y.weak (Y.stable hI2 (s' := s') (fun c y hc hx => ?_) (Nat.le_refl _)) fun c hc => hc.elim .inl fun h => (by cases h)
    have hx' : s2.m c = some y := hx
    rw [heq c (hw.2 _ _ hx').2 fun e => hc (.inr e)]; exact hx'
  | some b' =>
    rcases hb b' e with h | h
    · have h3 := Y.fresh hI2 (q := b') (hno b' h) (hlt b' e)
      refine Y.weak (Y.stable h3 (s' := s') (fun c y hc hx => ?_) (Nat.le_refl _)) fun c hc => hc.elim (fun h => .inl (.inl h)) fun h => .inr (Option.some.inj h).symm
      have hx' : s2.m c = some y := hx
      rw [heq c (hw.2 _ _ hx').2 fun e => hc (.inl (.inr e))]; exact hx'
    · refine Y.weak (Y.stable hI2 (s' := s') (fun c y hc hx => ?_) (Nat.le_refl _)) fun c hc => hc.elim .inl fun h' => .inr (h.trans h')
      have hx' : s2.m c = some y := hx
      rw [heq c (hw.2 _ _ hx').2 fun e => hc (.inr e)]; exact hx'
theorem OrdV.own {h : HF} {s : St} {v : Value} {os : List Int} (ho : Own s 3 1 (ints os) os.length v) (hh : ∀ b y, blk v = some b → s.m b = some y → ∀ G u s', Env L h G u s' → s'.m b = some y) : OrdV L h v os := by
  obtain ⟨A, c, rfl, hc⟩ := ho.is
  refine ⟨A, c, rfl, hc, fun hne => ?_⟩
  have hl : 0 < os.length := by cases os with | nil => exact absurd rfl hne | cons a l => simp
  obtain ⟨b, c1, sp, e1, _, m1, _, _⟩ := ho.has hl
  cases e1
  exact ⟨b, 0, _, _, rfl, hh b _ rfl m1, fun j x hj => by rw [Nat.zero_add, List.getElem?_toArray]; exact ints_get hj sp⟩
theorem OrdV.lit {h : HF} {b : Nat} {x : Int} {ty : TypeId} (hb : h b = some (.raw (.cells #[.int .i64 x] ty (0, 0)))) : OrdV L h (.slice (some ⟨b, 0, none⟩) 1 1) [x] := by
  refine ⟨_, 1, rfl, Nat.le_refl _, fun _ => ⟨b, 0, _, ty, rfl, fun _ _ _ he => he.sub _ _ hb, fun j y hj => ?_⟩⟩
  match j, hj with
  | 0, hj => cases hj; rfl
  | j + 1, hj => cases hj
theorem lgI_empty {U A : Type} {ex : Nat → U → A → U × List A × Bool} {pre : Nat → U → A → Prop} {H : U → HF} {u : U} (hlt : ∀ c, G c → c < s.n) (hH : ∀ c y, H u c = some y → s.m c = some y ∧ ¬ G c) : LgI (hLg (B := B) U A ex pre H) 0 G (u, fun _ => []) [] s :=
  ⟨rfl, hlt, fun _ => noH, fun _ c y hc => (by cases hc), fun _ _ _ => rfl, fun _ _ _ _ hc => absurd rfl hc, fun c y hy => ⟨(hH c y hy).1, fun hc => hc.elim (hH c y hy).2 fun ⟨_, ht⟩ => ht rfl⟩, fun t v hv => by simp at hv⟩
end
section
variable {B : World} {σ τ : St} {K : Value → St → Prop}
theorem set_wf1 {s : St} {y : HP} (hwf : s.wf B) : ((s.set s.n y).up (s.n + 1)).wf B := by
  have := hwf.1
  refine ⟨by simp only [St.up_n]; omega, fun c x hx => ?_⟩
  simp only [St.up_m, St.set, St.up_n] at hx ⊢
  split at hx
  · omega
  · have := hwf.2 _ _ hx; omega
theorem gro {h : HF} {s s1 : St} {c : Nat} {y : HP} (hc : s.n ≤ c) (hx : s1.m c = some y) : grow h s s1 c = some y := by unfold grow; rw [if_pos hc]; exact hx
theorem LgI.at {U A : Type} {ex : Nat → U → A → U × List A × Bool} {pre : Nat → U → A → Prop} {H : U → HF} {k : Nat} {G : Nat → Prop} {x : U × (Nat → List A)} {vs : List Value} {s : St} (hI : LgI (hLg (B := B) U A ex pre H) k G x vs s) {c : Nat} {y : HP} (hy : H x.1 c = some y) : s.m c = some y := by
  obtain ⟨hs, h1, h2, h3, h4, h5⟩ := hI.hs
  exact (h4 c y hy).1
theorem LgI.stepV {L : Lg B} {k : Nat} {G : Nat → Prop} {x : L.U × (Nat → List L.A)} {vs : List Value} {s : St} (hI : LgI L k G x vs s) {v : Value} (hv : v ∈ vs) : StV v := by
  obtain ⟨hs, h1, h2, h3, h4, h5⟩ := hI.hs
  obtain ⟨t, ht⟩ := List.getElem?_of_mem hv
  obtain ⟨m, hm⟩ := h5 t v ht
  exact hm.st
theorem slR_nil : SlR B 1 RInt [] (.slice none 0 0) := ⟨none, 0, rfl, Nat.le_refl _, Nat.zero_le _, fun _ => rfl, fun i x h => by simp at h⟩
theorem StV.one {v : Value} (hv : StV v) : vc v = #[v] ∧ v.oneCell' = true := by rcases hv with rfl | ⟨_, _, _, rfl⟩ <;> exact ⟨rfl, rfl⟩
theorem LgI.call {L : Lg B} {k n : Nat} {G : Nat → Prop} {x : L.U × (Nat → List L.A)} {vs : List Value} {s : St} {f : FuncId} {args : Array Value} {T : List L.A} (hI : LgI L k G x vs s) (hw : s.wf B)
    (hc : ∀ (G' : Nat → Prop) (K' : Value → St → Prop), Env L (grow noH s s) G' x.1 s → (∀ v s', Aft L (Rep L k n T) G' x.1 s v s' → s'.wf B → K' v s') → Fn Tryz.prog B f args s K')
    (hK : ∀ v s', LgI L (k + 1) G (x.1, updL x.2 k T) (vs ++ [v]) s' → (∀ c y, G c → s.m c = some y → s'.m c = some y) → s.n ≤ s'.n → s'.wf B → StV v → K v s') : Fn Tryz.prog B f args s K := by
  obtain ⟨G', hG, hE, hfin⟩ := hI.fork hw (fun c _ => rfl) (Nat.le_refl _) hw
  refine hc G' K hE fun v s' ha hw' => ?_
  have h1 := hfin _ _ _ _ ha
  exact hK v s' h1 (fun c y hc hx => ha.keep c y (hG c hc) hx) ha.n hw' (h1.stepV (by simp))
theorem LgI.alloc {L : Lg B} {k : Nat} {G : Nat → Prop} {x : L.U × (Nat → List L.A)} {vs : List Value} {s : St} (hI : LgI L k G x vs s) (hw : s.wf B) (y : HP) : LgI L k (fun c => G c ∨ c = s.n) x vs ((s.set s.n y).up (s.n + 1)) := by
  have hno : s.m s.n = none := by
    cases hx : s.m s.n with
    | none => rfl
    | some y => have := (hw.2 _ _ hx).2; omega
  have h1 := hI.stable (s' := s.up (s.n + 1)) (fun c y _ hx => hx) (by simp only [St.up_n]; omega)
  have h2 := h1.fresh (q := s.n) hno (by simp only [St.up_n]; omega)
  refine h2.stable (fun c z hc hx => ?_) (by simp only [St.up_n, St.set_n]; omega)
  have hne : c ≠ s.n := fun e => hc (.inr e)
  have hx' : s.m c = some z := hx
  simp only [St.up_m]
  rw [St.set_m_ne _ _ hne]; exact hx'
structure OW (σ : St) {U : Type} (H : U → HF) (u : U) (s : St) : Prop where
  w : ∀ c y, H u c = some y → s.m c = some y ∧ ¬ c < σ.n
  old : ∀ c y, σ.m c = some y → s.m c = some y
  n : σ.n ≤ s.n
theorem OW.keep {σ : St} {U : Type} {H : U → HF} {u : U} {s s' : St} (h : OW σ H u s) (hk : ∀ c y, s.m c = some y → s'.m c = some y) (hn : s.n ≤ s'.n) : OW σ H u s' :=
  ⟨fun c y hc => ⟨hk _ _ (h.w c y hc).1, (h.w c y hc).2⟩, fun c y hx => hk _ _ (h.old c y hx), Nat.le_trans h.n hn⟩
theorem OW.lgi {σ : St} {U A : Type} {ex : Nat → U → A → U × List A × Bool} {pre : Nat → U → A → Prop} {H : U → HF} {u : U} {s : St} (h : OW σ H u s) : LgI (hLg (B := B) U A ex pre H) 0 (fun c => c < σ.n) (u, fun _ => []) [] s :=
  lgI_empty (fun c hc => Nat.lt_of_lt_of_le hc h.n) h.w
theorem LgI.ow {σ : St} {U A : Type} {ex : Nat → U → A → U × List A × Bool} {pre : Nat → U → A → Prop} {H : U → HF} {k : Nat} {x : U × (Nat → List A)} {vs : List Value} {s : St} (hI : LgI (hLg (B := B) U A ex pre H) k (fun c => c < σ.n) x vs s) (ho : ∀ c y, σ.m c = some y → s.m c = some y) (hn : σ.n ≤ s.n) : OW σ H x.1 s := by
  obtain ⟨hs, h1, h2, h3, h4, h5⟩ := hI.hs
  exact ⟨fun c y hc => ⟨(h4 c y hc).1, fun hl => (h4 c y hc).2 (.inl hl)⟩, ho, hn⟩
theorem LgI.owE {σ : St} {U A : Type} {ex : Nat → U → A → U × List A × Bool} {pre : Nat → U → A → Prop} {H : U → HF} {k tb : Nat} {x : U × (Nat → List A)} {vs : List Value} {s : St} (hI : LgI (hLg (B := B) U A ex pre H) k (fun c => c < σ.n ∨ c = tb) x vs s) (ho : ∀ c y, σ.m c = some y → s.m c = some y) (hn : σ.n ≤ s.n) (ht : σ.n ≤ tb) (hwf : σ.wf B) (y : HP) : OW σ H x.1 (s.set tb y) := by
  obtain ⟨hs, h1, h2, h3, h4, h5⟩ := hI.hs
  refine ⟨fun c z hc => ⟨?_, fun hl => (h4 c z hc).2 (.inl (.inl hl))⟩, fun c z hx => ?_, hn⟩
  · have hne : c ≠ tb := fun e => (h4 c z hc).2 (.inl (.inr e))
    rw [St.set_m_ne _ _ hne]; exact (h4 c z hc).1
  · have := (hwf.2 _ _ hx).2
    rw [St.set_m_ne _ _ (by omega)]; exact ho c z hx
theorem LgI.keep {L : Lg B} {k : Nat} {G : Nat → Prop} {x : L.U × (Nat → List L.A)} {vs : List Value} {s s' : St} (hI : LgI L k G x vs s) (hk : ∀ c y, s.m c = some y → s'.m c = some y) (hn : s.n ≤ s'.n) : LgI L k G x vs s' :=
  hI.stable (fun c y _ hx => hk c y hx) hn
theorem then_nil {s : St} (hK : K .nilFunc s) : Fn Tryz.prog B 64 #[.nilFunc] s K := by
  refine Fn.of is64 (by simp) fun hwf => ?_
  simp only [b64, Tryz.f64, Option.getD_some]
  simp -implicitDefEqProofs (disch := first | omega | (simp only [St.set_n, St.up_n, List.length_cons, List.length_nil]; omega)) only [go_sem, Nat.reduceAdd, Nat.reduceMul, Nat.reduceSub, Int.reduceAdd, Int.reduceMul, Int.reduceSub, Int.reduceNeg, Int.reduceToNat]
  exact hK
theorem two_one {v0 v1 : Value} (h0 : StV v0) (h1 : StV v1) : ∀ v ∈ [v0, v1], v.cells = #[v] := by
  intro v hv
  simp only [List.mem_cons, List.not_mem_nil, or_false] at hv
  rcases hv with rfl | rfl
  · exact h0.one.1
  · exact h1.one.1
end
section
variable {P : Program} {B : World} {σ τ : St}
theorem fill_ones {z : Value} (hz : z.cells = #[z]) (n : Nat) : ∀ (vs : List Value) (i : Nat) (c : Array Value), (∀ v ∈ vs, v.cells = #[v]) → i + vs.length ≤ c.size →
    Instr.fill (fun i => some (i * 1, 1)) c (vs.zipIdx i |>.map fun p => (p.2, p.1)) = some (wrl c i vs)
  | [], i, c, _, _ => rfl
  | v :: vs, i, c, hv, hl => by
    have h1 := hv v (by simp)
    simp only [List.length_cons] at hl
    simp only [List.zipIdx_cons, List.map_cons]
    show fl _ _ _ = _
    rw [fill_cons, fillK_some]
    have hvc : vc v = #[v] := h1
    rw [if_neg (by rw [hvc]; simp; omega), hvc]
    simp only [Nat.mul_one]
    have := fill_ones hz n vs (i + 1) (c.setIfInBounds i v) (fun u hu => hv u (by simp [hu])) (by simp; omega)
    simp only [Nat.mul_one] at this
    exact this
/-- A literal slice of values of one cell each. -/
theorem bslK_ones {t el : TypeId} {b n : Nat} {z : Value} {vs : List Value} {parts : List (Nat × Value)} {d : Option Tmp} {K : Fr → St → Prop} {e : Fr} (hse : se P t = some (el, 1, b)) (hz : zr P el = some z) (hz1 : z.cells = #[z]) (hv : ∀ v ∈ vs, v.cells = #[v]) (hn : vs.length = n) (hp : parts = (vs.zipIdx 0 |>.map fun p => (p.2, p.1))) (h24 : n ≤ 1000)
    (h : K (e.put d (.slice (some ⟨σ.n, 0, none⟩) n n)) ((σ.set σ.n (.raw (.cells vs.toArray el (0, 0)))).up (σ.n + 1))) : bslK P t n parts d K e σ := by
  unfold bslK bsl bindK
  have hsz : (zcells z.cells (n * 1)).size = n := by simp [zcells]
  refine ⟨_, hse, z, hz, by omega, vs.toArray, ?_, h⟩
  rw [hp, fill_ones hz1 n vs 0 _ hv (by omega), wrl_all _ _ (by omega)]
end
section
variable {B : World} {L : Lg B} {K : Value → St → Prop} {G : Nat → Prop} {s : St}
def putH (h : HF) (b : Nat) (y : HP) : HF := fun c => if c = b then some y else h c
theorem putH_ne {h : HF} {b c : Nat} {y : HP} (hc : c ≠ b) : putH h b y c = h c := by unfold putH; rw [if_neg hc]
theorem putH_eq {h : HF} {b : Nat} {y : HP} : putH h b y b = some y := by unfold putH; rw [if_pos rfl]
theorem Aft.put {h : HF} {u : L.U} {v : Value} {s' : St} (ha : Aft L (fun _ h' => h' = h) G u s v s') {b : Nat} (hb : h b ≠ none) (y : HP) : Aft L (fun _ h' => h' = putH h b y) G u s v (s'.set b y) := by
  obtain ⟨n1, k1, h', e1, s1, d1, i1⟩ := ha
  subst e1
  have hG : ¬ G b := fun hg => hb (d1 b hg)
  refine ⟨by simp only [St.set_n]; exact n1, fun c x hc hx => ?_, _, rfl, fun c x hc => ?_, fun c hc => ?_, ?_⟩
  · have hne : c ≠ b := fun e => hG (by rw [← e]; exact hc)
    rw [St.set_m_ne _ _ hne]; exact k1 c x hc hx
  · by_cases e : c = b
    · subst e; rw [putH_eq] at hc; cases hc; exact St.set_m_same _ _ _
    · rw [putH_ne e] at hc; rw [St.set_m_ne _ _ e]; exact s1 c x hc
  · have hne : c ≠ b := fun e => hG (by rw [← e]; exact hc)
    rw [putH_ne hne]; exact d1 c hc
  · refine L.weak (L.stable (s' := s'.set b y) i1 (fun c x hc hx => ?_) (by simp only [St.set_n]; omega)) fun c hc => ?_
    · have hne : c ≠ b := fun e => hc (.inr (by rw [e]; exact hb))
      rw [St.set_m_ne _ _ hne]; exact hx
    · rcases hc with hc | hc
      · exact .inl hc
      · by_cases e : c = b
        · subst e; exact .inr hb
        · rw [putH_ne e] at hc; exact .inr hc
end
end Go.Proofs.YtdbgeahmhfocaaaGreat

/- Histories: the log, by walks. -/
namespace Go.Proofs.YtdbgeahmhfocaaaGreat
set_option linter.unusedSimpArgs false
set_option linter.unusedVariables false
set_option maxRecDepth 100000
open Go Go.RowKit

structure COp where
  kind : Int
  sub : Int
  text : ByteArray
  pay : ByteArray
  keep : Bool
structure CAn where
  err : Int
  a : Int
  b : Int
  topic : ByteArray
  pay : ByteArray
  kept : Bool
structure Cl where
  th : Int
  pl : Int
  op : COp
  an : CAn
  fr : Int
  to : Int
def fOp (o : COp) : List Value := [.int .i64 o.kind, .int .i64 o.sub, .string o.text, .string o.pay, .bool o.keep]
def fAn (a : CAn) : List Value := [.int .i64 a.err, .int .i64 a.a, .int .i64 a.b, .string a.topic, .string a.pay, .bool a.kept]
def fC (c : Cl) : List Value := [.int .i64 c.th, .int .i64 c.pl, .int .i64 c.op.kind, .int .i64 c.op.sub, .string c.op.text, .string c.op.pay, .bool c.op.keep,
  .int .i64 c.an.err, .int .i64 c.an.a, .int .i64 c.an.b, .string c.an.topic, .string c.an.pay, .bool c.an.kept, .int .i64 c.fr, .int .i64 c.to]
theorem fC_len (c : Cl) : (fC c).length = 15 := rfl
def an0 : CAn := ⟨0, 0, 0, ⟨#[]⟩, ⟨#[]⟩, false⟩
def op0 : COp := ⟨0, 0, ⟨#[]⟩, ⟨#[]⟩, false⟩
def cnt (l : List Cl) (t : Int) : Nat := (l.filter fun c => c.th == t).length
theorem cnt_append (l : List Cl) (c : Cl) (t : Int) : cnt (l ++ [c]) t = if c.th = t then cnt l t + 1 else cnt l t := by
  unfold cnt
  rw [List.filter_append]
  by_cases h : c.th = t <;> simp [h]
theorem cnt_le (l : List Cl) (t : Int) : cnt l t ≤ l.length := List.length_filter_le _ _

structure LS where
  l : List Cl
  now : Nat
def LS.begin (S : LS) (t : Int) (op : COp) : LS := { l := S.l ++ [⟨t, cnt S.l t, op, an0, S.now + 1, 0⟩], now := S.now + 1 }

def mblk : Value → Option Nat
  | .map (some b) => some b
  | _ => none
/-- The log's map: none yet, or a block of its own. -/
def MapOf (σ : St) (l : List Cl) (p : Nat) (sv mv : Value) : Prop :=
  (mv = .map none ∧ l = []) ∨ ∃ b mm, mv = .map (some b) ∧ σ.m b = some (.raw (mapO mm)) ∧ b ≠ p ∧ blk sv ≠ some b ∧ ∀ t, (mget mm t).getD (.int .i64 0) = .int .i64 (cnt l t)
def LogR (S : LS) (p : Nat) (h : Heaplet) : Prop :=
  ∃ sv mv, h p = some (.cells #[sv, .int .i64 S.now, mv] 106 (0, 0)) ∧ Own (hs h) 69 15 (flat fC S.l) S.l.length sv ∧ blk sv ≠ some p ∧ MapOf (hs h) S.l p sv mv

section
variable {B : World} {σ τ : St} {K : Value → St → Prop}

/-- The log at 'p' lies open. -/
structure LgO (B : World) (σ τ : St) (p : Nat) (S : LS) (sv mv : Value) : Prop where
  wf : τ.wf B
  n : σ.n ≤ τ.n
  root : τ.m p = some (.raw (.cells #[sv, .int .i64 S.now, mv] 106 (0, 0)))
  own : Own τ 69 15 (flat fC S.l) S.l.length sv
  offp : blk sv ≠ some p
  mp : MapOf τ S.l p sv mv
  fr : ∀ c x, c ≠ p → σ.m c = some x → τ.m c = some x ∧ blk sv ≠ some c ∧ mblk mv ≠ some c

theorem MapOf.at_ {l : List Cl} {p b : Nat} {sv mv : Value} (h : MapOf σ l p sv mv) (hb : mblk mv = some b) : ∃ o, σ.m b = some (.raw o) := by
  rcases h with ⟨rfl, _⟩ | ⟨b', mm, rfl, h1, _⟩
  · cases hb
  · cases hb; exact ⟨_, h1⟩
theorem MapOf.keepR {l : List Cl} {p : Nat} {sv mv : Value} (h : MapOf σ l p sv mv) (hk : ∀ b o, mblk mv = some b → σ.m b = some (.raw o) → τ.m b = some (.raw o)) : MapOf τ l p sv mv := by
  rcases h with h | ⟨b, mm, rfl, h1, h2⟩
  · exact .inl h
  · exact .inr ⟨b, mm, rfl, hk b _ rfl h1, h2⟩

theorem Fn.openL {f : FuncId} {args : Array Value} {p : Nat} {S : LS} (hm : σ.m p = some (.comp (LogR S p))) (he : ∃ fn, Tryz.prog.funcs[f]? = some fn ∧ (fn.name == "runtime.NumGoroutine") = false ∧ fn.body.isSome = true)
    (h : ∀ sv mv τ, τ.n = σ.n → LgO B σ τ p S sv mv → Fn Tryz.prog B f args τ K) : Fn Tryz.prog B f args σ K := by
  refine Fn.opens hm he fun g τ hR hwf hn hg hd hk => ?_
  obtain ⟨sv, mv, h1, h2, h3, h4⟩ := hR
  have hx : ∀ b o, (hs g).m b = some (.raw o) → τ.m b = some (.raw o) ∧ g b = some o := fun b o hb => by
    simp only [hs, Option.map_eq_some_iff] at hb
    obtain ⟨o', ho', e⟩ := hb
    cases e; exact ⟨hg b o ho', ho'⟩
  have hoff : ∀ c x, c ≠ p → σ.m c = some x → ∀ o, g c ≠ some o := fun c x hc hx o ho => by
    rcases hd c o ho with h5 | h5
    · exact hc h5
    · rw [hx] at h5; cases h5
  refine h sv mv τ hn ⟨hwf, by omega, hg p _ h1, h2.keepR fun b o _ hb => (hx b o hb).1, h3, h4.keepR fun b o _ hb => (hx b o hb).1, fun c x hc hcx => ⟨hk c x hc hcx, fun hb => ?_, fun hb => ?_⟩⟩
  · obtain ⟨o, ho⟩ := h2.at_ hb
    exact hoff c x hc hcx _ (hx _ _ ho).2
  · obtain ⟨o, ho⟩ := h4.at_ hb
    exact hoff c x hc hcx _ (hx _ _ ho).2
theorem LgO.close {p : Nat} {S : LS} {sv mv r : Value} (h : LgO B σ τ p S sv mv) (hK : ∀ k, σ.n ≤ k → K r ((σ.set p (.comp (LogR S p))).up k)) : ∃ σ'', To B τ σ'' ∧ K r σ'' := by
  have hin1 : ∀ b, blk sv = some b → b ∈ p :: ((blk sv).toList ++ (mblk mv).toList) := fun b hb => List.mem_cons_of_mem _ (List.mem_append.2 (.inl (by simp [hb])))
  have hin2 : ∀ b, mblk mv = some b → b ∈ p :: ((blk sv).toList ++ (mblk mv).toList) := fun b hb => List.mem_cons_of_mem _ (List.mem_append.2 (.inr (by simp [hb])))
  have hR : LogR S p (pick τ (p :: ((blk sv).toList ++ (mblk mv).toList))) := by
    refine ⟨sv, mv, pick_of List.mem_cons_self h.root, h.own.keepR fun b o hb hm => ?_, h.offp, h.mp.keepR fun b o hb hm => ?_⟩
    · simp only [hs, pick_of (hin1 b hb) hm, Option.map_some]
    · simp only [hs, pick_of (hin2 b hb) hm, Option.map_some]
  refine ⟨_, To.close (σ := σ) _ List.mem_cons_self h.root hR fun c x hc hx => ?_, hK _ h.n⟩
  obtain ⟨h1, h2, h3⟩ := h.fr c x hc hx
  refine ⟨fun hm => ?_, h1⟩
  rcases List.mem_cons.1 hm with h4 | h4
  · exact hc h4
  · rcases List.mem_append.1 h4 with h4 | h4 <;> simp only [Option.mem_toList] at h4
    · exact h2 h4
    · exact h3 h4
theorem Fn.opnL {f n : Nat} {c : Code} {rs : Array ResultVar} {args : Array Value} {p : Nat} {S : LS} (hm : σ.m p = some (.comp (LogR S p))) (hf : FnIs Tryz.prog f n c rs) (hsz : args.size ≤ n)
    (h : ∀ sv mv τ, τ.n = σ.n → LgO B σ τ p S sv mv → wpS Tryz.prog B none n c (retQ Tryz.prog B rs fun v σ' => ∃ σ'', To B σ' σ'' ∧ K v σ'') (fr0 args) τ) : Fn Tryz.prog B f args σ K :=
  Fn.openL hm hf.en fun sv mv τ hn O => Fn.of'' hf hsz O.wf (h sv mv τ hn O)
theorem Fn.opnLS {f n : Nat} {c : Code} {rs : Array ResultVar} {args : Array Value} {p : Nat} {S : LS} (hm : σ.m p = some (.comp (LogR S p))) (hf : FnIs Tryz.prog f n c rs) (hsz : args.size ≤ n)
    (h : ∀ sv mv τ, τ.n = σ.n → LgO B σ τ p S sv mv → SemS Tryz.prog B none n c (retQ Tryz.prog B rs fun v σ' => ∃ σ'', To B σ' σ'' ∧ K v σ'') (fr0 args) τ) : Fn Tryz.prog B f args σ K :=
  Fn.openL hm hf.en fun sv mv τ hn O => Fn.ofS hf hsz fun _ => h sv mv τ hn O
theorem LgO.more {τ' : St} {p : Nat} {S : LS} {sv mv : Value} (h : LgO B σ τ p S sv mv) (hwf : τ'.wf B) (hk : ∀ c x, τ.m c = some x → τ'.m c = some x) (hn : τ.n ≤ τ'.n) : LgO B σ τ' p S sv mv :=
  ⟨hwf, Nat.le_trans h.n hn, hk _ _ h.root, h.own.keepR fun b o _ ho => hk _ _ ho, h.offp, h.mp.keepR fun b o _ ho => hk _ _ ho, fun c x hc hx => ⟨hk _ _ (h.fr c x hc hx).1, (h.fr c x hc hx).2⟩⟩
/-- A block that is none of the log's. -/
theorem LgO.off {p c : Nat} {S : LS} {sv mv : Value} (h : LgO B σ τ p S sv mv) (hc : τ.n ≤ c) : c ≠ p ∧ blk sv ≠ some c ∧ mblk mv ≠ some c := by
  refine ⟨fun e => ?_, fun e => ?_, fun e => ?_⟩
  · have := (h.wf.2 _ _ h.root).2; omega
  · obtain ⟨o, ho⟩ := h.own.at_ e; have := (h.wf.2 _ _ ho).2; omega
  · obtain ⟨o, ho⟩ := h.mp.at_ e; have := (h.wf.2 _ _ ho).2; omega

theorem log_new (hK : ∀ k, σ.n < k → K (.pointer (some ⟨σ.n, 0, none⟩)) ((σ.set σ.n (.comp (LogR ⟨[], 0⟩ σ.n))).up k)) : Fn Tryz.prog B 11 #[] σ K := by
  refine Fn.of' is11 (by simp) fun hwf => ?_
  simp only [b11, Tryz.f11, Option.getD_some]
  simp -implicitDefEqProofs (disch := first | omega | (simp only [St.set_n, St.up_n, List.length_cons, List.length_nil]; omega)) only [go_sem, Nat.reduceAdd, Nat.reduceMul, Nat.reduceSub, Int.reduceAdd, Int.reduceMul, Int.reduceSub, Int.reduceNeg, Int.reduceToNat]
  have hm : ((σ.set σ.n (.raw (.cells #[.slice none 0 0, .int .i64 0, .map none] 106 (0, 0)))).up (σ.n + 1)).m σ.n = some (.raw (.cells #[.slice none 0 0, .int .i64 ((⟨[], 0⟩ : LS).now : Int), .map none] 106 (0, 0))) := by
    simp -implicitDefEqProofs (disch := first | omega | (simp only [St.set_n, St.up_n, List.length_cons, List.length_nil]; omega)) only [go_sem, Nat.reduceAdd, Nat.reduceMul, Nat.reduceSub, Int.reduceAdd, Int.reduceMul, Int.reduceSub, Int.reduceNeg, Int.reduceToNat]; rfl
  refine ⟨_, To.close (σ := σ) [σ.n] (List.mem_singleton.2 rfl) hm (R := LogR ⟨[], 0⟩ σ.n) ⟨.slice none 0 0, .map none, pick_of (List.mem_singleton.2 rfl) hm, Own.nil, by simp [blk], .inl ⟨rfl, rfl⟩⟩ fun c x hc hx => ⟨by simpa using hc, by simp -implicitDefEqProofs (disch := first | omega | (simp only [St.set_n, St.up_n, List.length_cons, List.length_nil]; omega)) only [go_sem, Nat.reduceAdd, Nat.reduceMul, Nat.reduceSub, Int.reduceAdd, Int.reduceMul, Int.reduceSub, Int.reduceNeg, Int.reduceToNat, hx]⟩, hK _ (by simp only [St.up_n]; omega)⟩

theorem log_defer {x3 x4 p b : Nat} {sv now : Value} {mm : Mp} {t : Int} {n : Nat} {K : St → Prop} (h3 : σ.m x3 = some (.raw (.cells #[.pointer (some ⟨p, 0, none⟩)] 43 (0, 0)))) (h4 : σ.m x4 = some (.raw (.cells #[.int .i64 t] 3 (0, 0))))
    (hr : σ.m p = some (.raw (.cells #[sv, now, .map (some b)] 106 (0, 0)))) (hb : σ.m b = some (.raw (mapO mm))) (hg : (mget mm t).getD (.int .i64 0) = .int .i64 n) (hn : n ≤ 1000000)
    (hK : K (σ.set b (.raw (mapO (mput mm t (.int .i64 (n + 1))))))) : DFn Tryz.prog B 65 #[.pointer (some ⟨x3, 0, none⟩), .pointer (some ⟨x4, 0, none⟩)] σ K := by
  refine DFn.of' is65 (by simp) fun hwf => ?_
  simp only [b65, Tryz.f65, Option.getD_some]
  simp -implicitDefEqProofs (disch := first | omega | (simp only [St.set_n, St.up_n, List.length_cons, List.length_nil]; omega)) only [go_sem, Nat.reduceAdd, Nat.reduceMul, Nat.reduceSub, Int.reduceAdd, Int.reduceMul, Int.reduceSub, Int.reduceNeg, Int.reduceToNat, h3, h4, hr, hb, hg]
  refine effD_tail (by kernel_rfl) ?_
  simp -implicitDefEqProofs (disch := first | omega | (simp only [St.set_n, St.up_n, List.length_cons, List.length_nil]; omega)) only [go_sem, Nat.reduceAdd, Nat.reduceMul, Nat.reduceSub, Int.reduceAdd, Int.reduceMul, Int.reduceSub, Int.reduceNeg, Int.reduceToNat, hb]
  exact ⟨⟨[], rfl⟩, hK⟩
end
end Go.Proofs.YtdbgeahmhfocaaaGreat

/- Histories: 'Begin', by a walk. -/
namespace Go.Proofs.YtdbgeahmhfocaaaGreat
set_option linter.unusedSimpArgs false
set_option linter.unusedVariables false
set_option maxRecDepth 100000
open Go Go.RowKit
section
variable {B : World} {σ τ : St} {K : Value → St → Prop}

structure BgJ (B : World) (σ : St) (p : Nat) (S : LS) (x3 x4 x5 : Nat) (t : Int) (op : COp) (sv : Value) (b : Nat) (e : Fr) (s : St) : Prop where
  v3 : e.v 3 = .pointer (some ⟨x3, 0, none⟩)
  v4 : e.v 4 = .pointer (some ⟨x4, 0, none⟩)
  v5 : e.v 5 = .pointer (some ⟨x5, 0, none⟩)
  d : e.d = []
  m3 : s.m x3 = some (.raw (.cells #[.pointer (some ⟨p, 0, none⟩)] 43 (0, 0)))
  m4 : s.m x4 = some (.raw (.cells #[.int .i64 t] 3 (0, 0)))
  m5 : s.m x5 = some (.raw (.cells (fOp op).toArray 48 (0, 0)))
  O : LgO B σ s p S sv (.map (some b))
  o3 : x3 ≠ p ∧ blk sv ≠ some x3 ∧ x3 ≠ b
  o4 : x4 ≠ p ∧ blk sv ≠ some x4 ∧ x4 ≠ b
  o5 : x5 ≠ p ∧ blk sv ≠ some x5 ∧ x5 ≠ b
set_option maxHeartbeats 4000000 in
theorem log_begin {S : LS} {p : Nat} {t : Int} {op : COp} (hm : σ.m p = some (.comp (LogR S p))) (hn1 : S.now ≤ 1000000) (hl : S.l.length ≤ 100000)
    (hK : ∀ k, σ.n ≤ k → K (.int .i64 (S.l.length + 1)) ((σ.set p (.comp (LogR (S.begin t op) p))).up k)) :
    Fn Tryz.prog B 37 #[.pointer (some ⟨p, 0, none⟩), .int .i64 t, .agg (fOp op).toArray] σ K := by
  refine Fn.opnLS hm is37 (by simp) fun sv mv τ hn O => ?_
  have hr := O.root
  obtain ⟨n1, n2, n3⟩ := O.off (Nat.le_refl τ.n)
  obtain ⟨n1', n2', n3'⟩ := O.off (c := τ.n + 1) (by omega)
  obtain ⟨n1'', n2'', n3''⟩ := O.off (c := τ.n + 1 + 1) (by omega)
  simp only [b37, Tryz.f37, Option.getD_some]
  refine SemS.seqw fun _ => ?_
  simp -implicitDefEqProofs (disch := first | omega | (simp only [St.set_n, St.up_n, List.length_cons, List.length_nil]; omega)) only [go_sem, Nat.reduceAdd, Nat.reduceMul, Nat.reduceSub, Int.reduceAdd, Int.reduceMul, Int.reduceSub, Int.reduceNeg, Int.reduceToNat, fOp]
  refine SemS.seqw fun _ => ?_
  simp -implicitDefEqProofs (disch := first | omega | (simp only [St.set_n, St.up_n, List.length_cons, List.length_nil]; omega)) only [go_sem, Nat.reduceAdd, Nat.reduceMul, Nat.reduceSub, Int.reduceAdd, Int.reduceMul, Int.reduceSub, Int.reduceNeg, Int.reduceToNat, n1, n1', n1'']
  have O3 : LgO B σ ((((τ.set τ.n (.raw (.cells #[.pointer (some ⟨p, 0, none⟩)] 43 (0, 0)))).set (τ.n + 1) (.raw (.cells #[.int .i64 t] 3 (0, 0)))).set (τ.n + 1 + 1) (.raw (.cells #[.int .i64 op.kind, .int .i64 op.sub, .string op.text, .string op.pay, .bool op.keep] 48 (0, 0)))).up (τ.n + 1 + 1 + 1)) p S sv mv := by
    have hwB := O.wf.1
    refine O.more ⟨by simp only [St.up_n]; omega, fun c x hc => ?_⟩ (fun c x hc => by have := (O.wf.2 _ _ hc).2; simp -implicitDefEqProofs (disch := first | omega | (simp only [St.set_n, St.up_n, List.length_cons, List.length_nil]; omega)) only [go_sem, Nat.reduceAdd, Nat.reduceMul, Nat.reduceSub, Int.reduceAdd, Int.reduceMul, Int.reduceSub, Int.reduceNeg, Int.reduceToNat, hc]) (by simp only [St.up_n]; omega)
    simp only [St.up_m, St.set] at hc
    simp only [St.up_n]
    split at hc
    · omega
    · split at hc
      · omega
      · split at hc
        · omega
        · have := O.wf.2 _ _ hc; omega
  have m3 : ((((τ.set τ.n (.raw (.cells #[.pointer (some ⟨p, 0, none⟩)] 43 (0, 0)))).set (τ.n + 1) (.raw (.cells #[.int .i64 t] 3 (0, 0)))).set (τ.n + 1 + 1) (.raw (.cells #[.int .i64 op.kind, .int .i64 op.sub, .string op.text, .string op.pay, .bool op.keep] 48 (0, 0)))).up (τ.n + 1 + 1 + 1)).m τ.n = some (.raw (.cells #[.pointer (some ⟨p, 0, none⟩)] 43 (0, 0))) := by simp -implicitDefEqProofs (disch := first | omega | (simp only [St.set_n, St.up_n, List.length_cons, List.length_nil]; omega)) only [go_sem, Nat.reduceAdd, Nat.reduceMul, Nat.reduceSub, Int.reduceAdd, Int.reduceMul, Int.reduceSub, Int.reduceNeg, Int.reduceToNat]
  have m4 : ((((τ.set τ.n (.raw (.cells #[.pointer (some ⟨p, 0, none⟩)] 43 (0, 0)))).set (τ.n + 1) (.raw (.cells #[.int .i64 t] 3 (0, 0)))).set (τ.n + 1 + 1) (.raw (.cells #[.int .i64 op.kind, .int .i64 op.sub, .string op.text, .string op.pay, .bool op.keep] 48 (0, 0)))).up (τ.n + 1 + 1 + 1)).m (τ.n + 1) = some (.raw (.cells #[.int .i64 t] 3 (0, 0))) := by simp -implicitDefEqProofs (disch := first | omega | (simp only [St.set_n, St.up_n, List.length_cons, List.length_nil]; omega)) only [go_sem, Nat.reduceAdd, Nat.reduceMul, Nat.reduceSub, Int.reduceAdd, Int.reduceMul, Int.reduceSub, Int.reduceNeg, Int.reduceToNat]
  have m5 : ((((τ.set τ.n (.raw (.cells #[.pointer (some ⟨p, 0, none⟩)] 43 (0, 0)))).set (τ.n + 1) (.raw (.cells #[.int .i64 t] 3 (0, 0)))).set (τ.n + 1 + 1) (.raw (.cells #[.int .i64 op.kind, .int .i64 op.sub, .string op.text, .string op.pay, .bool op.keep] 48 (0, 0)))).up (τ.n + 1 + 1 + 1)).m (τ.n + 1 + 1) = some (.raw (.cells (fOp op).toArray 48 (0, 0))) := by simp -implicitDefEqProofs (disch := first | omega | (simp only [St.set_n, St.up_n, List.length_cons, List.length_nil]; omega)) only [go_sem, Nat.reduceAdd, Nat.reduceMul, Nat.reduceSub, Int.reduceAdd, Int.reduceMul, Int.reduceSub, Int.reduceNeg, Int.reduceToNat]; rfl
  have hn0 : τ.n + 1 + 1 + 1 = ((((τ.set τ.n (.raw (.cells #[.pointer (some ⟨p, 0, none⟩)] 43 (0, 0)))).set (τ.n + 1) (.raw (.cells #[.int .i64 t] 3 (0, 0)))).set (τ.n + 1 + 1) (.raw (.cells #[.int .i64 op.kind, .int .i64 op.sub, .string op.text, .string op.pay, .bool op.keep] 48 (0, 0)))).up (τ.n + 1 + 1 + 1)).n := rfl
  generalize ((((τ.set τ.n (.raw (.cells #[.pointer (some ⟨p, 0, none⟩)] 43 (0, 0)))).set (τ.n + 1) (.raw (.cells #[.int .i64 t] 3 (0, 0)))).set (τ.n + 1 + 1) (.raw (.cells #[.int .i64 op.kind, .int .i64 op.sub, .string op.text, .string op.pay, .bool op.keep] 48 (0, 0)))).up (τ.n + 1 + 1 + 1)) = s0 at O3 m3 m4 m5 hn0 ⊢
  refine SemS.seq (fun e s => ∃ b, BgJ B σ p S τ.n (τ.n + 1) (τ.n + 1 + 1) t op sv b e s) ?_ ?_
  · refine SemS.wp fun hwf0 => ?_
    have hr3 := O3.root
    rcases O3.mp with ⟨rfl, hnil⟩ | ⟨b, mm, rfl, hmm, hbp, hbs, hg⟩
    · obtain ⟨z1, z2, z3⟩ := O3.off (Nat.le_refl s0.n)
      have hp0 := O3.wf.2 _ _ hr3
      have hB0 := O3.wf.1
      have hn03 := O3.n
      simp -implicitDefEqProofs (disch := first | omega | (simp only [St.set_n, St.up_n, List.length_cons, List.length_nil]; omega)) only [go_sem, Nat.reduceAdd, Nat.reduceMul, Nat.reduceSub, Int.reduceAdd, Int.reduceMul, Int.reduceSub, Int.reduceNeg, Int.reduceToNat, m3, hr3]
      refine ⟨_, To.refl _ _, s0.n, ⟨by simp -implicitDefEqProofs (disch := first | omega | (simp only [St.set_n, St.up_n, List.length_cons, List.length_nil]; omega)) only [go_sem, Nat.reduceAdd, Nat.reduceMul, Nat.reduceSub, Int.reduceAdd, Int.reduceMul, Int.reduceSub, Int.reduceNeg, Int.reduceToNat], by simp -implicitDefEqProofs (disch := first | omega | (simp only [St.set_n, St.up_n, List.length_cons, List.length_nil]; omega)) only [go_sem, Nat.reduceAdd, Nat.reduceMul, Nat.reduceSub, Int.reduceAdd, Int.reduceMul, Int.reduceSub, Int.reduceNeg, Int.reduceToNat], by simp -implicitDefEqProofs (disch := first | omega | (simp only [St.set_n, St.up_n, List.length_cons, List.length_nil]; omega)) only [go_sem, Nat.reduceAdd, Nat.reduceMul, Nat.reduceSub, Int.reduceAdd, Int.reduceMul, Int.reduceSub, Int.reduceNeg, Int.reduceToNat], by simp -implicitDefEqProofs (disch := first | omega | (simp only [St.set_n, St.up_n, List.length_cons, List.length_nil]; omega)) only [go_sem, Nat.reduceAdd, Nat.reduceMul, Nat.reduceSub, Int.reduceAdd, Int.reduceMul, Int.reduceSub, Int.reduceNeg, Int.reduceToNat], by simp -implicitDefEqProofs (disch := first | omega | (simp only [St.set_n, St.up_n, List.length_cons, List.length_nil]; omega)) only [go_sem, Nat.reduceAdd, Nat.reduceMul, Nat.reduceSub, Int.reduceAdd, Int.reduceMul, Int.reduceSub, Int.reduceNeg, Int.reduceToNat, m3], by simp -implicitDefEqProofs (disch := first | omega | (simp only [St.set_n, St.up_n, List.length_cons, List.length_nil]; omega)) only [go_sem, Nat.reduceAdd, Nat.reduceMul, Nat.reduceSub, Int.reduceAdd, Int.reduceMul, Int.reduceSub, Int.reduceNeg, Int.reduceToNat, m4], by simp -implicitDefEqProofs (disch := first | omega | (simp only [St.set_n, St.up_n, List.length_cons, List.length_nil]; omega)) only [go_sem, Nat.reduceAdd, Nat.reduceMul, Nat.reduceSub, Int.reduceAdd, Int.reduceMul, Int.reduceSub, Int.reduceNeg, Int.reduceToNat, m5], ⟨⟨?_, fun c x hc => ?_⟩, ?_, ?_, O3.own.keepR fun b o hb ho => ?_, O3.offp, .inr ⟨s0.n, [], rfl, ?_, z1, z2, fun t => ?_⟩, fun c x hc hx => ?_⟩, ⟨n1, n2, by omega⟩, ⟨n1', n2', by omega⟩, ⟨n1'', n2'', by omega⟩⟩⟩
      · simp only [St.up_n, St.set_n]; omega
      · simp only [St.up_m, St.up_n, St.set_n, St.set] at hc ⊢
        split at hc
        · omega
        · split at hc
          · omega
          · have := O3.wf.2 _ _ hc; omega
      · simp only [St.up_n, St.set_n]; omega
      · simp -implicitDefEqProofs (disch := first | omega | (simp only [St.set_n, St.up_n, List.length_cons, List.length_nil]; omega)) only [go_sem, Nat.reduceAdd, Nat.reduceMul, Nat.reduceSub, Int.reduceAdd, Int.reduceMul, Int.reduceSub, Int.reduceNeg, Int.reduceToNat]
      · have := (O3.wf.2 _ _ ho).2
        have hbp : b ≠ p := fun e => O3.offp (e ▸ hb)
        simp -implicitDefEqProofs (disch := first | omega | (simp only [St.set_n, St.up_n, List.length_cons, List.length_nil]; omega)) only [go_sem, Nat.reduceAdd, Nat.reduceMul, Nat.reduceSub, Int.reduceAdd, Int.reduceMul, Int.reduceSub, Int.reduceNeg, Int.reduceToNat, ho]
      · simp -implicitDefEqProofs (disch := first | omega | (simp only [St.set_n, St.up_n, List.length_cons, List.length_nil]; omega)) only [go_sem, Nat.reduceAdd, Nat.reduceMul, Nat.reduceSub, Int.reduceAdd, Int.reduceMul, Int.reduceSub, Int.reduceNeg, Int.reduceToNat]
      · rw [hnil]; rfl
      · obtain ⟨h1, h2, h3⟩ := O3.fr c x hc hx
        have := (O3.wf.2 _ _ h1).2
        refine ⟨by simp -implicitDefEqProofs (disch := first | omega | (simp only [St.set_n, St.up_n, List.length_cons, List.length_nil]; omega)) only [go_sem, Nat.reduceAdd, Nat.reduceMul, Nat.reduceSub, Int.reduceAdd, Int.reduceMul, Int.reduceSub, Int.reduceNeg, Int.reduceToNat, h1], h2, fun e => ?_⟩
        simp only [mblk, Option.some.injEq] at e
        omega
    · simp -implicitDefEqProofs (disch := first | omega | (simp only [St.set_n, St.up_n, List.length_cons, List.length_nil]; omega)) only [go_sem, Nat.reduceAdd, Nat.reduceMul, Nat.reduceSub, Int.reduceAdd, Int.reduceMul, Int.reduceSub, Int.reduceNeg, Int.reduceToNat, m3, hr3]
      have hb3 := (O3.wf.2 _ _ hmm).2
      have hoff := fun c (hc : τ.n ≤ c) => O.off hc
      refine ⟨_, To.refl _ _, b, ⟨by simp -implicitDefEqProofs (disch := first | omega | (simp only [St.set_n, St.up_n, List.length_cons, List.length_nil]; omega)) only [go_sem, Nat.reduceAdd, Nat.reduceMul, Nat.reduceSub, Int.reduceAdd, Int.reduceMul, Int.reduceSub, Int.reduceNeg, Int.reduceToNat], by simp -implicitDefEqProofs (disch := first | omega | (simp only [St.set_n, St.up_n, List.length_cons, List.length_nil]; omega)) only [go_sem, Nat.reduceAdd, Nat.reduceMul, Nat.reduceSub, Int.reduceAdd, Int.reduceMul, Int.reduceSub, Int.reduceNeg, Int.reduceToNat], by simp -implicitDefEqProofs (disch := first | omega | (simp only [St.set_n, St.up_n, List.length_cons, List.length_nil]; omega)) only [go_sem, Nat.reduceAdd, Nat.reduceMul, Nat.reduceSub, Int.reduceAdd, Int.reduceMul, Int.reduceSub, Int.reduceNeg, Int.reduceToNat], by simp -implicitDefEqProofs (disch := first | omega | (simp only [St.set_n, St.up_n, List.length_cons, List.length_nil]; omega)) only [go_sem, Nat.reduceAdd, Nat.reduceMul, Nat.reduceSub, Int.reduceAdd, Int.reduceMul, Int.reduceSub, Int.reduceNeg, Int.reduceToNat], m3, m4, m5, O3, ⟨n1, n2, ?_⟩, ⟨n1', n2', ?_⟩, ⟨n1'', n2'', ?_⟩⟩⟩
      · exact fun e => n3 (by simp [mblk, e])
      · exact fun e => n3' (by simp [mblk, e])
      · exact fun e => n3'' (by simp [mblk, e])
  · rintro e s hws ⟨b, q3, q4, q5, hd, m3, m4, m5, O, ⟨a1, a2, a3⟩, ⟨b1, b2, b3⟩, ⟨c1, c2, c3⟩⟩
    refine SemS.wp fun _ => ?_
    have hr := O.root
    have hos := O.own
    obtain ⟨mm, hmm, hbp, hbs, hg⟩ : ∃ mm, s.m b = some (.raw (mapO mm)) ∧ b ≠ p ∧ blk sv ≠ some b ∧ ∀ t, (mget mm t).getD (.int .i64 0) = .int .i64 (cnt S.l t) := by
      rcases O.mp with ⟨h, _⟩ | ⟨b', mm, h, h1, h2⟩
      · cases h
      · cases h; exact ⟨mm, h1, h2⟩
    have hgt := hg t
    simp -implicitDefEqProofs (disch := first | omega | (simp only [St.set_n, St.up_n, List.length_cons, List.length_nil]; omega)) only [go_sem, Nat.reduceAdd, Nat.reduceMul, Nat.reduceSub, Int.reduceAdd, Int.reduceMul, Int.reduceSub, Int.reduceNeg, Int.reduceToNat, q3, q4, q5, m3, m4, m5, hr, hd, hmm, hgt, fOp]
    refine effD_plan [0, 0, 2, 6, 14, 0, 0, 64, 192, 448, 0, 1984, 0, 0, 8192, 24576, 57344, 131040, 262112, 524286, 1048575, 2097151, 4194303] [0, 1, 2, 3, 4, 5, 6, 7, 8, 9, 10, 11, 12, 13, 14, 15, 16, 17, 20, 21] (.eagq 0 (.eagq 1 (.eag 2 (.eag 3 (.eagq 4 (.eagq 5 (.eagq 6 (.eag 7 (.eag 8 (.eagq 9 (.eagq 10 (.eagq 11 (.eagq 12 (.eagq 13 (.eag 14 (.eag 15 (.eagq 16 (.eag 17 (.alt 18 [0, 1, 4] (.alt 19 [0] (.eag 20 (.eag 21 (.alt 22 [] .fin .stop))) .stop) .stop))))))))))))))))))) (by kernel_rfl) ?_
    have x3n := (O.wf.2 _ _ m3).2
    have hps := O.wf.2 _ _ hr
    simp -implicitDefEqProofs (disch := first | omega | (simp only [St.set_n, St.up_n, List.length_cons, List.length_nil]; omega)) only [go_sem, Nat.reduceAdd, Nat.reduceMul, Nat.reduceSub, Int.reduceAdd, Int.reduceMul, Int.reduceSub, Int.reduceNeg, Int.reduceToNat, q3, q4, q5, m3, m4, m5, hr, hd, hmm, hgt, fOp]
    have hbp' : p ≠ b := fun e => hbp e.symm
    have hw1 : (s.set p (.raw (.cells #[sv, .int .i64 (S.now + 1), .map (some b)] 106 (0, 0)))).wf B := O.wf.set _ hps
    have ho1 : Own (s.set p (.raw (.cells #[sv, .int .i64 (S.now + 1), .map (some b)] 106 (0, 0)))) 69 15 (flat fC S.l) S.l.length sv := hos.keepR fun c o hc ho => by
      have : c ≠ p := fun e => O.offp (e ▸ hc)
      simp -implicitDefEqProofs (disch := first | omega | (simp only [St.set_n, St.up_n, List.length_cons, List.length_nil]; omega)) only [go_sem, Nat.reduceAdd, Nat.reduceMul, Nat.reduceSub, Int.reduceAdd, Int.reduceMul, Int.reduceSub, Int.reduceNeg, Int.reduceToNat, ho]
    refine appF_one (s := s.set p (.raw (.cells #[sv, .int .i64 (S.now + 1), .map (some b)] 106 (0, 0)))) (sz := 15) (bts := 152) (ys := fC ⟨t, cnt S.l t, op, an0, S.now + 1, 0⟩) hw1 ho1 se56 kd56 zr69 rfl (by omega) rfl rfl (by omega) fun A' C' s1 hC' o1 hw2 hk1 hm1 hb1 hn1 => ?_
    simp only [St.set_n] at hb1 hn1
    have hold : ∀ c x, c ≠ p → blk sv ≠ some c → s.m c = some x → s1.m c = some x := fun c x h1 h2 hx => hm1 c x (by simp -implicitDefEqProofs (disch := first | omega | (simp only [St.set_n, St.up_n, List.length_cons, List.length_nil]; omega)) only [go_sem, Nat.reduceAdd, Nat.reduceMul, Nat.reduceSub, Int.reduceAdd, Int.reduceMul, Int.reduceSub, Int.reduceNeg, Int.reduceToNat, hx]) h2
    have r1 : s1.m p = some (.raw (.cells #[sv, .int .i64 (S.now + 1), .map (some b)] 106 (0, 0))) := hm1 p _ (by simp -implicitDefEqProofs (disch := first | omega | (simp only [St.set_n, St.up_n, List.length_cons, List.length_nil]; omega)) only [go_sem, Nat.reduceAdd, Nat.reduceMul, Nat.reduceSub, Int.reduceAdd, Int.reduceMul, Int.reduceSub, Int.reduceNeg, Int.reduceToNat]) O.offp
    have m31 := hold _ _ a1 a2 m3
    have m41 := hold _ _ b1 b2 m4
    have mb1 := hold _ _ hbp hbs hmm
    have off1 : ∀ c, c < s.n → blk sv ≠ some c → blk (.slice A' (S.l.length + 1) C') ≠ some c := fun c hc h2 e => by
      rcases hb1 c e with h | h
      · omega
      · exact h2 h
    have hp1 := off1 p hps.2 O.offp
    have hbb1 := off1 b (O.wf.2 _ _ hmm).2 hbs
    simp -implicitDefEqProofs (disch := first | omega | (simp only [St.set_n, St.up_n, List.length_cons, List.length_nil]; omega)) only [go_sem, Nat.reduceAdd, Nat.reduceMul, Nat.reduceSub, Int.reduceAdd, Int.reduceMul, Int.reduceSub, Int.reduceNeg, Int.reduceToNat, q3, q4, r1, m31, hd]
    have hcl := cnt_le S.l t
    refine log_defer (n := cnt S.l t) (t := t) (p := p) (b := b) (mm := mm) ?_ ?_ (sv := .slice A' (S.l.length + 1) C') (now := .int .i64 (S.now + 1)) ?_ ?_ hgt (by omega) ?_
    · simp -implicitDefEqProofs (disch := first | omega | (simp only [St.set_n, St.up_n, List.length_cons, List.length_nil]; omega)) only [go_sem, Nat.reduceAdd, Nat.reduceMul, Nat.reduceSub, Int.reduceAdd, Int.reduceMul, Int.reduceSub, Int.reduceNeg, Int.reduceToNat, m31]
    · simp -implicitDefEqProofs (disch := first | omega | (simp only [St.set_n, St.up_n, List.length_cons, List.length_nil]; omega)) only [go_sem, Nat.reduceAdd, Nat.reduceMul, Nat.reduceSub, Int.reduceAdd, Int.reduceMul, Int.reduceSub, Int.reduceNeg, Int.reduceToNat, m41]
    · simp -implicitDefEqProofs (disch := first | omega | (simp only [St.set_n, St.up_n, List.length_cons, List.length_nil]; omega)) only [go_sem, Nat.reduceAdd, Nat.reduceMul, Nat.reduceSub, Int.reduceAdd, Int.reduceMul, Int.reduceSub, Int.reduceNeg, Int.reduceToNat]
    · simp -implicitDefEqProofs (disch := first | omega | (simp only [St.set_n, St.up_n, List.length_cons, List.length_nil]; omega)) only [go_sem, Nat.reduceAdd, Nat.reduceMul, Nat.reduceSub, Int.reduceAdd, Int.reduceMul, Int.reduceSub, Int.reduceNeg, Int.reduceToNat, mb1]
    have hS : (S.l ++ [(⟨t, cnt S.l t, op, an0, S.now + 1, 0⟩ : Cl)]).length = S.l.length + 1 := by simp
    refine LgO.close (S := S.begin t op) (sv := .slice A' (S.l.length + 1) C') (mv := .map (some b)) ⟨(hw2.set _ ⟨hps.1, by omega⟩).set _ ⟨(O.wf.2 _ _ hmm).1, by have := (O.wf.2 _ _ hmm).2; simp only [St.set_n]; omega⟩, by have := O.n; simp only [St.set_n]; omega, by simp -implicitDefEqProofs (disch := first | omega | (simp only [St.set_n, St.up_n, List.length_cons, List.length_nil]; omega)) only [go_sem, Nat.reduceAdd, Nat.reduceMul, Nat.reduceSub, Int.reduceAdd, Int.reduceMul, Int.reduceSub, Int.reduceNeg, Int.reduceToNat]; rfl, ?_, hp1, .inr ⟨b, mput mm t (.int .i64 (cnt S.l t + 1)), rfl, by simp -implicitDefEqProofs (disch := first | omega | (simp only [St.set_n, St.up_n, List.length_cons, List.length_nil]; omega)) only [go_sem, Nat.reduceAdd, Nat.reduceMul, Nat.reduceSub, Int.reduceAdd, Int.reduceMul, Int.reduceSub, Int.reduceNeg, Int.reduceToNat], hbp, hbb1, fun t' => ?_⟩, fun c x hc hx => ?_⟩ hK
    · show Own _ 69 15 (flat fC (S.l ++ [(⟨t, cnt S.l t, op, an0, S.now + 1, 0⟩ : Cl)])) (S.l ++ [(⟨t, cnt S.l t, op, an0, S.now + 1, 0⟩ : Cl)]).length _
      rw [hS, flat_append]
      have hf1 : flat fC [(⟨t, cnt S.l t, op, an0, S.now + 1, 0⟩ : Cl)] = fC ⟨t, cnt S.l t, op, an0, S.now + 1, 0⟩ := by simp [flat]
      rw [hf1]
      refine o1.keepR fun c o hc ho => ?_
      have h1 : c ≠ p := fun e => hp1 (e ▸ hc)
      have h2 : c ≠ b := fun e => hbb1 (e ▸ hc)
      simp -implicitDefEqProofs (disch := first | omega | (simp only [St.set_n, St.up_n, List.length_cons, List.length_nil]; omega)) only [go_sem, Nat.reduceAdd, Nat.reduceMul, Nat.reduceSub, Int.reduceAdd, Int.reduceMul, Int.reduceSub, Int.reduceNeg, Int.reduceToNat, ho]
    · show _ = Value.int .i64 (cnt (S.l ++ [_]) t')
      rw [cnt_append, mget_put]
      by_cases e : t' = t
      · subst e; simp
      · rw [if_neg e, if_neg (Ne.symm e)]; exact hg t'
    · obtain ⟨h1, h2, h3⟩ := O.fr c x hc hx
      have hcb : c ≠ b := fun e => h3 (by simp [mblk, e])
      have hcn := (O.wf.2 _ _ h1).2
      have h4 := hold c x hc h2 h1
      exact ⟨by simp -implicitDefEqProofs (disch := first | omega | (simp only [St.set_n, St.up_n, List.length_cons, List.length_nil]; omega)) only [go_sem, Nat.reduceAdd, Nat.reduceMul, Nat.reduceSub, Int.reduceAdd, Int.reduceMul, Int.reduceSub, Int.reduceNeg, Int.reduceToNat, h4], off1 c hcn h2, h3⟩
end
end Go.Proofs.YtdbgeahmhfocaaaGreat

/- Histories: 'End', by a walk. -/
namespace Go.Proofs.YtdbgeahmhfocaaaGreat
set_option linter.unusedSimpArgs false
set_option linter.unusedVariables false
set_option maxRecDepth 100000
open Go Go.RowKit
section
variable {B : World} {σ τ : St} {K : Value → St → Prop}

theorem cnt_set {l : List Cl} {j : Nat} {c c' : Cl} (h : l[j]? = some c) (hth : c'.th = c.th) (t : Int) : cnt (l.set j c') t = cnt l t := by
  induction l generalizing j with
  | nil => simp at h
  | cons x l ih =>
    cases j with
    | zero => simp at h; subst h; simp only [cnt, List.set_cons_zero, List.filter_cons, hth]; split <;> rfl
    | succ j =>
      have := ih (by simpa using h)
      simp only [cnt, List.set_cons_succ, List.filter_cons] at this ⊢
      split <;> simp [this]
theorem fC_to (c : Cl) (x : Int) : fC { c with to := x } = (fC c).set 14 (.int .i64 x) := rfl
theorem flat_set' {α : Type} {f : α → List Value} {s : Nat} (hf : ∀ x, (f x).length = s) (l : List α) (sp : List Value) (i : Nat) (x x' : α) (j k : Nat) (v : Value) (h : l[i]? = some x) (hj : j < s) (hx : f x' = (f x).set j v) (hk : k = i * s + j) :
    (flat f l ++ sp).set k v = flat f (l.set i x') ++ sp := by subst hk; exact flat_set hf l sp i x x' j v h hj hx
theorem an_set {l : List Cl} (sp : List Value) {j : Nat} {c : Cl} (a : CAn) (hc : l[j]? = some c) :
    (((((((flat fC l ++ sp).set (j * 15 + 7) (.int .i64 a.err)).set (j * 15 + 7 + 1) (.int .i64 a.a)).set (j * 15 + 7 + 1 + 1) (.int .i64 a.b)).set (j * 15 + 7 + 1 + 1 + 1) (.string a.topic)).set (j * 15 + 7 + 1 + 1 + 1 + 1) (.string a.pay)).set (j * 15 + 7 + 1 + 1 + 1 + 1 + 1) (.bool a.kept)) = flat fC (l.set j { c with an := a }) ++ sp := by
  have hj := (List.getElem?_eq_some_iff.1 hc).1
  have hg : ∀ x : Cl, (l.set j x)[j]? = some x := fun x => List.getElem?_set_self hj
  rw [flat_set' fC_len l sp j c { c with an := { c.an with err := a.err } } 7 _ _ hc (by omega) rfl rfl,
    flat_set' fC_len _ sp j { c with an := { c.an with err := a.err } } { c with an := { c.an with err := a.err, a := a.a } } 8 _ _ (hg _) (by omega) rfl rfl,
    List.set_set, flat_set' fC_len _ sp j { c with an := { c.an with err := a.err, a := a.a } } { c with an := { c.an with err := a.err, a := a.a, b := a.b } } 9 _ _ (hg _) (by omega) rfl rfl,
    List.set_set, flat_set' fC_len _ sp j { c with an := { c.an with err := a.err, a := a.a, b := a.b } } { c with an := { c.an with err := a.err, a := a.a, b := a.b, topic := a.topic } } 10 _ _ (hg _) (by omega) rfl rfl,
    List.set_set, flat_set' fC_len _ sp j { c with an := { c.an with err := a.err, a := a.a, b := a.b, topic := a.topic } } { c with an := { c.an with err := a.err, a := a.a, b := a.b, topic := a.topic, pay := a.pay } } 11 _ _ (hg _) (by omega) rfl rfl,
    List.set_set, flat_set' fC_len _ sp j { c with an := { c.an with err := a.err, a := a.a, b := a.b, topic := a.topic, pay := a.pay } } { c with an := a } 12 _ _ (hg _) (by omega) rfl rfl, List.set_set]
theorem log_end_nil {id : Int} {a : CAn} (hK : ∀ k, σ.n ≤ k → K (.bool false) (σ.up k)) : Fn Tryz.prog B 34 #[.pointer none, .int .i64 id, .agg (fAn a).toArray] σ K := by
  refine Fn.of' is34 (by simp) fun hwf => ?_
  simp only [b34, Tryz.f34, Option.getD_some]
  simp -implicitDefEqProofs (disch := first | omega | (simp only [St.set_n, St.up_n, List.length_cons, List.length_nil]; omega)) only [go_sem, Nat.reduceAdd, Nat.reduceMul, Nat.reduceSub, Int.reduceAdd, Int.reduceMul, Int.reduceSub, Int.reduceNeg, Int.reduceToNat, fAn]
  exact ⟨_, To.same (fun d y h2 h3 => by simp -implicitDefEqProofs (disch := first | omega | (simp only [St.set_n, St.up_n, List.length_cons, List.length_nil]; omega)) only [go_sem, Nat.reduceAdd, Nat.reduceMul, Nat.reduceSub, Int.reduceAdd, Int.reduceMul, Int.reduceSub, Int.reduceNeg, Int.reduceToNat, h3]) hwf, hK _ (by simp only [St.up_n]; omega)⟩
theorem log_begin_nil {t : Int} {op : COp} (hK : ∀ k, σ.n ≤ k → K (.int .i64 0) (σ.up k)) : Fn Tryz.prog B 37 #[.pointer none, .int .i64 t, .agg (fOp op).toArray] σ K := by
  refine Fn.of' is37 (by simp) fun hwf => ?_
  simp only [b37, Tryz.f37, Option.getD_some]
  simp -implicitDefEqProofs (disch := first | omega | (simp only [St.set_n, St.up_n, List.length_cons, List.length_nil]; omega)) only [go_sem, Nat.reduceAdd, Nat.reduceMul, Nat.reduceSub, Int.reduceAdd, Int.reduceMul, Int.reduceSub, Int.reduceNeg, Int.reduceToNat, fOp]
  exact ⟨_, To.same (fun d y h2 h3 => by simp -implicitDefEqProofs (disch := first | omega | (simp only [St.set_n, St.up_n, List.length_cons, List.length_nil]; omega)) only [go_sem, Nat.reduceAdd, Nat.reduceMul, Nat.reduceSub, Int.reduceAdd, Int.reduceMul, Int.reduceSub, Int.reduceNeg, Int.reduceToNat, h3]) hwf, hK _ (by simp only [St.up_n]; omega)⟩
def Bad (l : List Cl) (id : Int) : Prop := id < 1 ∨ (l.length : Int) < id ∨ ∃ (j : Nat) (c : Cl), id = j + 1 ∧ l[j]? = some c ∧ c.to ≠ 0
set_option maxHeartbeats 4000000 in
theorem log_end_no {S : LS} {p : Nat} {id : Int} {a : CAn} (hm : σ.m p = some (.comp (LogR S p))) (hl : S.l.length ≤ 100000) (hb : Bad S.l id) (hid : -9223372036854775808 ≤ id)
    (hK : ∀ k, σ.n ≤ k → K (.bool false) (σ.up k)) : Fn Tryz.prog B 34 #[.pointer (some ⟨p, 0, none⟩), .int .i64 id, .agg (fAn a).toArray] σ K := by
  refine Fn.opnL hm is34 (by simp) fun sv mv τ hn O => ?_
  have hr := O.root
  have hpn := (O.wf.2 _ _ hr).2
  have hK' : ∀ k, σ.n ≤ k → K (.bool false) ((σ.set p (.comp (LogR S p))).up k) := fun k hk => by rw [St.set_same hm]; exact hK k hk
  obtain ⟨A, cap, rfl, _⟩ := O.own.is
  have O1 : LgO B σ ((τ.set τ.n (.raw (.cells (fAn a).toArray 64 (0, 0)))).up (τ.n + 1)) p S (.slice A S.l.length cap) mv := by
    have hwB := O.wf.1
    refine O.more ⟨by simp only [St.up_n]; omega, fun c x hc => ?_⟩ (fun c x hc => by have := (O.wf.2 _ _ hc).2; simp -implicitDefEqProofs (disch := first | omega | (simp only [St.set_n, St.up_n, List.length_cons, List.length_nil]; omega)) only [go_sem, Nat.reduceAdd, Nat.reduceMul, Nat.reduceSub, Int.reduceAdd, Int.reduceMul, Int.reduceSub, Int.reduceNeg, Int.reduceToNat, hc]) (by simp only [St.up_n]; omega)
    simp only [St.up_m, St.set] at hc
    simp only [St.up_n]
    split at hc
    · omega
    · have := O.wf.2 _ _ hc; omega
  simp only [b34, Tryz.f34, Option.getD_some]
  by_cases h1 : id < 1
  · simp -implicitDefEqProofs (disch := first | omega | (simp only [St.set_n, St.up_n, List.length_cons, List.length_nil]; omega)) only [go_sem, Nat.reduceAdd, Nat.reduceMul, Nat.reduceSub, Int.reduceAdd, Int.reduceMul, Int.reduceSub, Int.reduceNeg, Int.reduceToNat, fAn, hr, h1]
    exact O1.close hK'
  · by_cases h2 : (S.l.length : Int) < id
    · simp -implicitDefEqProofs (disch := first | omega | (simp only [St.set_n, St.up_n, List.length_cons, List.length_nil]; omega)) only [go_sem, Nat.reduceAdd, Nat.reduceMul, Nat.reduceSub, Int.reduceAdd, Int.reduceMul, Int.reduceSub, Int.reduceNeg, Int.reduceToNat, fAn, hr, h1, h2]
      exact O1.close hK'
    · obtain ⟨j, c, rfl, hc, hto⟩ := (hb.resolve_left h1).resolve_left h2
      have hj := (List.getElem?_eq_some_iff.1 hc).1
      obtain ⟨b, c1, sp, e1, _, mb, lb, _⟩ := O.own.has (by omega)
      cases e1
      have g := flat_get fC_len S.l sp j c 14 (.int .i64 c.to) hc rfl
      have hjj : (j : Int) + 1 - 1 = j := by omega
      have hjl : (j : Int) < S.l.length := by omega
      have hbn := O.wf.2 _ _ mb
      simp -implicitDefEqProofs (disch := first | omega | (simp only [St.set_n, St.up_n, List.length_cons, List.length_nil]; omega)) only [go_sem, Nat.reduceAdd, Nat.reduceMul, Nat.reduceSub, Int.reduceAdd, Int.reduceMul, Int.reduceSub, Int.reduceNeg, Int.reduceToNat, fAn, hr, h1, h2, mb, g, hto, hjj, hjl]
      exact O1.close hK'
set_option maxHeartbeats 4000000 in
theorem log_end {S : LS} {p : Nat} {id : Int} {j : Nat} {c : Cl} {a : CAn} (hm : σ.m p = some (.comp (LogR S p))) (hn1 : S.now ≤ 1000000) (hl : S.l.length ≤ 100000) (hid : id = (j : Int) + 1) (hc : S.l[j]? = some c) (hto : c.to = 0)
    (hK : ∀ k, σ.n ≤ k → K (.bool true) ((σ.set p (.comp (LogR ⟨S.l.set j { c with an := a, to := S.now + 1 }, S.now + 1⟩ p))).up k)) :
    Fn Tryz.prog B 34 #[.pointer (some ⟨p, 0, none⟩), .int .i64 id, .agg (fAn a).toArray] σ K := by
  refine Fn.opnL hm is34 (by simp) fun sv mv τ hn O => ?_
  subst hid
  have hr := O.root
  have hpn := O.wf.2 _ _ hr
  have hj := (List.getElem?_eq_some_iff.1 hc).1
  obtain ⟨b, c1, sp, rfl, hc1, mb, lb, _⟩ := O.own.has (by omega)
  have hbn := O.wf.2 _ _ mb
  have hbp : b ≠ p := fun e => O.offp (by rw [e]; rfl)
  have g := flat_get fC_len S.l sp j c 14 (.int .i64 c.to) hc rfl
  rw [hto] at g
  have hjj : (j : Int) + 1 - 1 = j := by omega
  have hjl : (j : Int) < S.l.length := by omega
  have h1 : ¬ (j : Int) + 1 < 1 := by omega
  have h2 : ¬ (S.l.length : Int) < (j : Int) + 1 := by omega
  have st1 := flat_set fC_len S.l sp j c { c with to := S.now + 1 } 14 (.int .i64 (S.now + 1)) hc (by omega) (fC_to c _)
  have lb2 : (flat fC (S.l.set j { c with to := S.now + 1 }) ++ sp).length = c1 * 15 := by rw [← st1, List.length_set]; exact lb
  simp only [b34, Tryz.f34, Option.getD_some]
  simp -implicitDefEqProofs (disch := first | omega | (simp only [St.set_n, St.up_n, List.length_cons, List.length_nil]; omega)) only [go_sem, Nat.reduceAdd, Nat.reduceMul, Nat.reduceSub, Int.reduceAdd, Int.reduceMul, Int.reduceSub, Int.reduceNeg, Int.reduceToNat, fAn, hr, h1, h2, mb, g, hjj, hjl]
  refine effD_plan [0, 0, 0, 4, 12, 28, 0, 61, 189, 445, 1023, 2047, 4095] [0, 1, 2, 3, 4, 5, 6, 7, 8, 10, 11] (.eag 0 (.eag 1 (.eag 2 (.eag 3 (.eag 4 (.eagq 5 (.eagq 6 (.eag 7 (.eag 8 (.alt 9 [6] (.eag 10 (.eag 11 (.alt 12 [] .fin .stop))) .stop)))))))))) (by kernel_rfl) ?_
  simp -implicitDefEqProofs (disch := first | omega | (simp only [St.set_n, St.up_n, List.length_cons, List.length_nil]; omega)) only [go_sem, Nat.reduceAdd, Nat.reduceMul, Nat.reduceSub, Int.reduceAdd, Int.reduceMul, Int.reduceSub, Int.reduceNeg, Int.reduceToNat, fAn, hr, h1, h2, mb, g, hjj, hjl, st1, hbp, lb, lb2]
  have hj2 : (S.l.set j { c with to := S.now + 1 })[j]? = some { c with to := S.now + 1 } := List.getElem?_set_self hj
  have st2 := an_set sp a hj2
  rw [List.set_set] at st2
  rw [st2]
  have hwB := O.wf.1
  refine LgO.close (S := ⟨S.l.set j { c with an := a, to := S.now + 1 }, S.now + 1⟩) (sv := .slice (some ⟨b, 0, none⟩) S.l.length c1) (mv := mv) ⟨⟨by simp only [St.up_n, St.set_n]; omega, fun d x hd => ?_⟩, by have := O.n; simp only [St.up_n, St.set_n]; omega, by simp -implicitDefEqProofs (disch := first | omega | (simp only [St.set_n, St.up_n, List.length_cons, List.length_nil]; omega)) only [go_sem, Nat.reduceAdd, Nat.reduceMul, Nat.reduceSub, Int.reduceAdd, Int.reduceMul, Int.reduceSub, Int.reduceNeg, Int.reduceToNat]; rfl, ?_, O.offp, ?_, fun d x hd hx => ?_⟩ hK
  · simp only [St.up_m, St.set] at hd
    simp only [St.up_n, St.set_n]
    split at hd
    · omega
    · split at hd
      · omega
      · split at hd
        · omega
        · have := O.wf.2 _ _ hd; omega
  · have e : (S.l.set j { c with an := a, to := S.now + 1 }).length = S.l.length := List.length_set
    show Own _ 69 15 (flat fC (S.l.set j { c with an := a, to := S.now + 1 })) (S.l.set j { c with an := a, to := S.now + 1 }).length _
    rw [e]
    refine Own.of' (sp := sp) (by simp -implicitDefEqProofs (disch := first | omega | (simp only [St.set_n, St.up_n, List.length_cons, List.length_nil]; omega)) only [go_sem, Nat.reduceAdd, Nat.reduceMul, Nat.reduceSub, Int.reduceAdd, Int.reduceMul, Int.reduceSub, Int.reduceNeg, Int.reduceToNat]) (by rw [flat_length fC_len, e]) hc1 (by rw [← st2]; simpa using lb2)
  · have hcnt : ∀ t, cnt (S.l.set j { c with an := a, to := S.now + 1 }) t = cnt S.l t := fun t => cnt_set (c' := { c with an := a, to := S.now + 1 }) hc rfl t
    rcases O.mp with ⟨h, hnil⟩ | ⟨b', mm, rfl, h1, h2, h3, h4⟩
    · rw [hnil] at hj; simp at hj
    · have hb' := (O.wf.2 _ _ h1).2
      have : b' ≠ b := fun e => h3 (by rw [e]; rfl)
      refine .inr ⟨b', mm, rfl, by simp -implicitDefEqProofs (disch := first | omega | (simp only [St.set_n, St.up_n, List.length_cons, List.length_nil]; omega)) only [go_sem, Nat.reduceAdd, Nat.reduceMul, Nat.reduceSub, Int.reduceAdd, Int.reduceMul, Int.reduceSub, Int.reduceNeg, Int.reduceToNat, h1], h2, h3, fun t => by rw [hcnt]; exact h4 t⟩
  · obtain ⟨h1, h2, h3⟩ := O.fr d x hd hx
    have := (O.wf.2 _ _ h1).2
    have hdb : d ≠ b := fun e => h2 (by rw [e]; rfl)
    exact ⟨by simp -implicitDefEqProofs (disch := first | omega | (simp only [St.set_n, St.up_n, List.length_cons, List.length_nil]; omega)) only [go_sem, Nat.reduceAdd, Nat.reduceMul, Nat.reduceSub, Int.reduceAdd, Int.reduceMul, Int.reduceSub, Int.reduceNeg, Int.reduceToNat, h1], h2, h3⟩
end
end Go.Proofs.YtdbgeahmhfocaaaGreat

/- Histories: 'Calls', by a walk. -/
namespace Go.Proofs.YtdbgeahmhfocaaaGreat
set_option linter.unusedSimpArgs false
set_option linter.unusedVariables false
set_option maxRecDepth 100000
open Go Go.RowKit
section
variable {B : World} {σ τ : St} {K : Value → St → Prop}

theorem cl_cells {l : List Cl} {i : Nat} {c : Cl} (h : l[i]? = some c) (sp : List Value) : (flat fC l ++ sp)[i * 15]? = some (.int .i64 c.th) ∧ (flat fC l ++ sp)[i * 15 + 1]? = some (.int .i64 c.pl) ∧ (flat fC l ++ sp)[i * 15 + 2]? = some (.int .i64 c.op.kind) ∧ (flat fC l ++ sp)[i * 15 + 3]? = some (.int .i64 c.op.sub) ∧ (flat fC l ++ sp)[i * 15 + 4]? = some (.string c.op.text) ∧ (flat fC l ++ sp)[i * 15 + 5]? = some (.string c.op.pay) ∧ (flat fC l ++ sp)[i * 15 + 6]? = some (.bool c.op.keep) ∧ (flat fC l ++ sp)[i * 15 + 7]? = some (.int .i64 c.an.err) ∧ (flat fC l ++ sp)[i * 15 + 8]? = some (.int .i64 c.an.a) ∧ (flat fC l ++ sp)[i * 15 + 9]? = some (.int .i64 c.an.b) ∧ (flat fC l ++ sp)[i * 15 + 10]? = some (.string c.an.topic) ∧ (flat fC l ++ sp)[i * 15 + 11]? = some (.string c.an.pay) ∧ (flat fC l ++ sp)[i * 15 + 12]? = some (.bool c.an.kept) ∧ (flat fC l ++ sp)[i * 15 + 13]? = some (.int .i64 c.fr) ∧ (flat fC l ++ sp)[i * 15 + 14]? = some (.int .i64 c.to) := by
  refine ⟨?_, ?_, ?_, ?_, ?_, ?_, ?_, ?_, ?_, ?_, ?_, ?_, ?_, ?_, ?_⟩
  · exact flat_get fC_len l sp i c 0 _ h rfl
  · exact flat_get fC_len l sp i c 1 _ h rfl
  · exact flat_get fC_len l sp i c 2 _ h rfl
  · exact flat_get fC_len l sp i c 3 _ h rfl
  · exact flat_get fC_len l sp i c 4 _ h rfl
  · exact flat_get fC_len l sp i c 5 _ h rfl
  · exact flat_get fC_len l sp i c 6 _ h rfl
  · exact flat_get fC_len l sp i c 7 _ h rfl
  · exact flat_get fC_len l sp i c 8 _ h rfl
  · exact flat_get fC_len l sp i c 9 _ h rfl
  · exact flat_get fC_len l sp i c 10 _ h rfl
  · exact flat_get fC_len l sp i c 11 _ h rfl
  · exact flat_get fC_len l sp i c 12 _ h rfl
  · exact flat_get fC_len l sp i c 13 _ h rfl
  · exact flat_get fC_len l sp i c 14 _ h rfl
theorem call_open {c : Cl} (hK : ∀ k, σ.n ≤ k → K (.bool (decide (c.to = 0))) (σ.up k)) : Fn Tryz.prog B 46 #[.agg (fC c).toArray] σ K := by
  refine Fn.of' is46 (by simp) fun hwf => ?_
  simp only [b46, Tryz.f46, Option.getD_some]
  simp -implicitDefEqProofs (disch := first | omega | (simp only [St.set_n, St.up_n, List.length_cons, List.length_nil]; omega)) only [go_sem, Nat.reduceAdd, Nat.reduceMul, Nat.reduceSub, Int.reduceAdd, Int.reduceMul, Int.reduceSub, Int.reduceNeg, Int.reduceToNat, fC]
  exact ⟨_, To.same (fun d y h2 h3 => by simp -implicitDefEqProofs (disch := first | omega | (simp only [St.set_n, St.up_n, List.length_cons, List.length_nil]; omega)) only [go_sem, Nat.reduceAdd, Nat.reduceMul, Nat.reduceSub, Int.reduceAdd, Int.reduceMul, Int.reduceSub, Int.reduceNeg, Int.reduceToNat, h3]) hwf, hK _ (by simp only [St.up_n]; omega)⟩
structure IxC (A : Option Addr) (n c i : Nat) (e : Fr) : Prop where
  v0 : e.v 0 = .slice A n c
  v1 : e.v 1 = .func (.func 46) #[] #[]
  v7 : e.v 7 = .int .i64 n
  v8 : e.v 8 = .int .i64 i
  d : e.d = []
theorem call_index {l : List Cl} {v : Value} (hl : l.length ≤ 100000) (ho : Own σ 69 15 (flat fC l) l.length v) (hK : ∀ r : Int, ∀ k, σ.n ≤ k → decide (0 ≤ r) = l.any (fun c => decide (c.to = 0)) → K (.int .i64 r) (σ.up k)) :
    Fn Tryz.prog B 68 #[v, .func (.func 46) #[] #[]] σ K := by
  obtain ⟨A, c, rfl, hc⟩ := ho.is
  refine Fn.of is68 (by simp) fun hwf => ?_
  simp only [b68, Tryz.f68, Option.getD_some]
  simp -implicitDefEqProofs (disch := first | omega | (simp only [St.set_n, St.up_n, List.length_cons, List.length_nil]; omega)) only [go_sem, Nat.reduceAdd, Nat.reduceMul, Nat.reduceSub, Int.reduceAdd, Int.reduceMul, Int.reduceSub, Int.reduceNeg, Int.reduceToNat]
  refine loop_rule (fun m e s => ∃ i k : Nat, m = l.length - i ∧ i ≤ l.length ∧ IxC A l.length c i e ∧ s = σ.up k ∧ σ.n ≤ k ∧ ∀ j y, j < i → l[j]? = some y → y.to ≠ 0) l.length ?_ ?_
  · exact ⟨0, σ.n, by omega, by omega, ⟨by simp -implicitDefEqProofs (disch := first | omega | (simp only [St.set_n, St.up_n, List.length_cons, List.length_nil]; omega)) only [go_sem, Nat.reduceAdd, Nat.reduceMul, Nat.reduceSub, Int.reduceAdd, Int.reduceMul, Int.reduceSub, Int.reduceNeg, Int.reduceToNat], by simp -implicitDefEqProofs (disch := first | omega | (simp only [St.set_n, St.up_n, List.length_cons, List.length_nil]; omega)) only [go_sem, Nat.reduceAdd, Nat.reduceMul, Nat.reduceSub, Int.reduceAdd, Int.reduceMul, Int.reduceSub, Int.reduceNeg, Int.reduceToNat], by simp -implicitDefEqProofs (disch := first | omega | (simp only [St.set_n, St.up_n, List.length_cons, List.length_nil]; omega)) only [go_sem, Nat.reduceAdd, Nat.reduceMul, Nat.reduceSub, Int.reduceAdd, Int.reduceMul, Int.reduceSub, Int.reduceNeg, Int.reduceToNat], by simp -implicitDefEqProofs (disch := first | omega | (simp only [St.set_n, St.up_n, List.length_cons, List.length_nil]; omega)) only [go_sem, Nat.reduceAdd, Nat.reduceMul, Nat.reduceSub, Int.reduceAdd, Int.reduceMul, Int.reduceSub, Int.reduceNeg, Int.reduceToNat]; rfl, by simp -implicitDefEqProofs (disch := first | omega | (simp only [St.set_n, St.up_n, List.length_cons, List.length_nil]; omega)) only [go_sem, Nat.reduceAdd, Nat.reduceMul, Nat.reduceSub, Int.reduceAdd, Int.reduceMul, Int.reduceSub, Int.reduceNeg, Int.reduceToNat]⟩, rfl, Nat.le_refl _, fun j y hj _ => by omega⟩
  · rintro m e s hws ⟨i, k, hm, hi, ⟨q0, q1, q7, q8, hd⟩, rfl, hk, hall⟩
    by_cases hlt : (i : Int) < l.length
    · obtain ⟨x, hx⟩ : ∃ x, l[i]? = some x := ⟨l[i]'(by omega), List.getElem?_eq_getElem (by omega)⟩
      obtain ⟨b1, c1, sp1, e1, _, m1, _, _⟩ := ho.has (by omega)
      cases e1
      have hcc := cl_cells hx sp1
      simp -implicitDefEqProofs (disch := first | omega | (simp only [St.set_n, St.up_n, List.length_cons, List.length_nil]; omega)) only [go_sem, Nat.reduceAdd, Nat.reduceMul, Nat.reduceSub, Int.reduceAdd, Int.reduceMul, Int.reduceSub, Int.reduceNeg, Int.reduceToNat, q0, q1, q7, q8, hlt, m1, hcc]
      refine callF_of (call_open (c := x) fun k2 hk2 => ?_)
      simp only [St.up_n] at hk2
      by_cases hto : x.to = 0
      · simp -implicitDefEqProofs (disch := first | omega | (simp only [St.set_n, St.up_n, List.length_cons, List.length_nil]; omega)) only [go_sem, Nat.reduceAdd, Nat.reduceMul, Nat.reduceSub, Int.reduceAdd, Int.reduceMul, Int.reduceSub, Int.reduceNeg, Int.reduceToNat, hto, hd]
        refine hK _ _ (by omega) ?_
        have h1 : l.any (fun c => decide (c.to = 0)) = true := List.any_eq_true.2 ⟨x, List.mem_of_getElem? hx, by simp [hto]⟩
        rw [h1]; simp
      · simp -implicitDefEqProofs (disch := first | omega | (simp only [St.set_n, St.up_n, List.length_cons, List.length_nil]; omega)) only [go_sem, Nat.reduceAdd, Nat.reduceMul, Nat.reduceSub, Int.reduceAdd, Int.reduceMul, Int.reduceSub, Int.reduceNeg, Int.reduceToNat, hto, q8]
        refine ⟨l.length - (i + 1), by omega, i + 1, k2, rfl, by omega, ⟨by simp -implicitDefEqProofs (disch := first | omega | (simp only [St.set_n, St.up_n, List.length_cons, List.length_nil]; omega)) only [go_sem, Nat.reduceAdd, Nat.reduceMul, Nat.reduceSub, Int.reduceAdd, Int.reduceMul, Int.reduceSub, Int.reduceNeg, Int.reduceToNat, q0], by simp -implicitDefEqProofs (disch := first | omega | (simp only [St.set_n, St.up_n, List.length_cons, List.length_nil]; omega)) only [go_sem, Nat.reduceAdd, Nat.reduceMul, Nat.reduceSub, Int.reduceAdd, Int.reduceMul, Int.reduceSub, Int.reduceNeg, Int.reduceToNat, q1], by simp -implicitDefEqProofs (disch := first | omega | (simp only [St.set_n, St.up_n, List.length_cons, List.length_nil]; omega)) only [go_sem, Nat.reduceAdd, Nat.reduceMul, Nat.reduceSub, Int.reduceAdd, Int.reduceMul, Int.reduceSub, Int.reduceNeg, Int.reduceToNat, q7], by simp -implicitDefEqProofs (disch := first | omega | (simp only [St.set_n, St.up_n, List.length_cons, List.length_nil]; omega)) only [go_sem, Nat.reduceAdd, Nat.reduceMul, Nat.reduceSub, Int.reduceAdd, Int.reduceMul, Int.reduceSub, Int.reduceNeg, Int.reduceToNat]; simp, by simp -implicitDefEqProofs (disch := first | omega | (simp only [St.set_n, St.up_n, List.length_cons, List.length_nil]; omega)) only [go_sem, Nat.reduceAdd, Nat.reduceMul, Nat.reduceSub, Int.reduceAdd, Int.reduceMul, Int.reduceSub, Int.reduceNeg, Int.reduceToNat, hd]⟩, rfl, by omega, fun j y hj hy => ?_⟩
        by_cases hji : j = i
        · subst hji; rw [hx] at hy; cases hy; exact hto
        · exact hall j y (by omega) hy
    · simp -implicitDefEqProofs (disch := first | omega | (simp only [St.set_n, St.up_n, List.length_cons, List.length_nil]; omega)) only [go_sem, Nat.reduceAdd, Nat.reduceMul, Nat.reduceSub, Int.reduceAdd, Int.reduceMul, Int.reduceSub, Int.reduceNeg, Int.reduceToNat, q7, q8, hlt, hd]
      refine hK _ _ (by omega) ?_
      have h1 : l.any (fun c => decide (c.to = 0)) = false := by
        rw [List.any_eq_false]
        intro y hy
        obtain ⟨j, hj⟩ := List.getElem?_of_mem hy
        have := hall j y (by have := (List.getElem?_eq_some_iff.1 hj).1; omega) hj
        simp [this]
      rw [h1]; rfl
theorem call_any {l : List Cl} {v : Value} (hl : l.length ≤ 100000) (ho : Own σ 69 15 (flat fC l) l.length v) (hK : ∀ k, σ.n ≤ k → K (.bool (l.any fun c => decide (c.to = 0))) (σ.up k)) :
    Fn Tryz.prog B 45 #[v, .func (.func 46) #[] #[]] σ K := by
  refine Fn.of is45 (by simp) fun hwf => ?_
  simp only [b45, Tryz.f45, Option.getD_some]
  simp -implicitDefEqProofs (disch := first | omega | (simp only [St.set_n, St.up_n, List.length_cons, List.length_nil]; omega)) only [go_sem, Nat.reduceAdd, Nat.reduceMul, Nat.reduceSub, Int.reduceAdd, Int.reduceMul, Int.reduceSub, Int.reduceNeg, Int.reduceToNat]
  refine callF_of (call_index hl ho fun r k hk hr => ?_)
  simp -implicitDefEqProofs (disch := first | omega | (simp only [St.set_n, St.up_n, List.length_cons, List.length_nil]; omega)) only [go_sem, Nat.reduceAdd, Nat.reduceMul, Nat.reduceSub, Int.reduceAdd, Int.reduceMul, Int.reduceSub, Int.reduceNeg, Int.reduceToNat]
  rw [hr]; exact hK k hk
theorem ones_flat (l : List Cl) : (flat fC l).all Value.oneCell' = true := by
  rw [List.all_eq_true]
  intro x hx
  obtain ⟨c, _, hc⟩ := List.mem_flatMap.1 hx
  simp only [fC, List.mem_cons, List.mem_nil_iff, or_false] at hc
  rcases hc with h | h | h | h | h | h | h | h | h | h | h | h | h | h | h <;> rw [h] <;> rfl
set_option maxHeartbeats 4000000 in
theorem call_clone {l : List Cl} {v : Value} (hl : l.length ≤ 100000) (ho : Own σ 69 15 (flat fC l) l.length v)
    (hK : ∀ v' s, Own s 69 15 (flat fC l) l.length v' → (∀ c x, σ.m c = some x → s.m c = some x ∧ blk v' ≠ some c) → σ.n ≤ s.n → (∀ b, blk v' = some b → σ.n ≤ b) → K v' s) : Fn Tryz.prog B 44 #[v] σ K := by
  obtain ⟨A, c, rfl, hc⟩ := ho.is
  refine Fn.of is44 (by simp) fun hwf => ?_
  simp only [b44, Tryz.f44, Option.getD_some]
  cases A with
  | none =>
    simp -implicitDefEqProofs (disch := first | omega | (simp only [St.set_n, St.up_n, List.length_cons, List.length_nil]; omega)) only [go_sem, Nat.reduceAdd, Nat.reduceMul, Nat.reduceSub, Int.reduceAdd, Int.reduceMul, Int.reduceSub, Int.reduceNeg, Int.reduceToNat]
    have hn : l.length = 0 := by
      obtain ⟨_, ⟨_, h⟩ | ⟨b, cap, sp, h, _⟩⟩ := ho
      · exact h
      · cases h
    have hl0 : l = [] := List.length_eq_zero_iff.1 hn
    subst hl0
    exact hK _ _ Own.nil (fun c x hx => ⟨hx, by simp [blk]⟩) (Nat.le_refl _) (fun b hb => by cases hb)
  | some ad =>
    simp -implicitDefEqProofs (disch := first | omega | (simp only [St.set_n, St.up_n, List.length_cons, List.length_nil]; omega)) only [go_sem, Nat.reduceAdd, Nat.reduceMul, Nat.reduceSub, Int.reduceAdd, Int.reduceMul, Int.reduceSub, Int.reduceNeg, Int.reduceToNat]
    have keep : ∀ c x, σ.m c = some x → ((σ.set σ.n (.raw (.cells #[] 69 (0, 0)))).up (σ.n + 1)).m c = some x := fun c x hx => by
      have := (hwf.2 _ _ hx).2
      simp -implicitDefEqProofs (disch := first | omega | (simp only [St.set_n, St.up_n, List.length_cons, List.length_nil]; omega)) only [go_sem, Nat.reduceAdd, Nat.reduceMul, Nat.reduceSub, Int.reduceAdd, Int.reduceMul, Int.reduceSub, Int.reduceNeg, Int.reduceToNat, hx]
    refine app_own2 se56 (.inr kd56) zr69 rfl (by omega) (cs := []) (n := 0) (Own.of' (sp := []) (by simp -implicitDefEqProofs (disch := first | omega | (simp only [St.set_n, St.up_n, List.length_cons, List.length_nil]; omega)) only [go_sem, Nat.reduceAdd, Nat.reduceMul, Nat.reduceSub, Int.reduceAdd, Int.reduceMul, Int.reduceSub, Int.reduceNeg, Int.reduceToNat]) rfl (Nat.le_refl _) rfl) (Own.fc (ho.keepR fun b o _ hb => keep _ _ hb)) (by rw [flat_length fC_len]) (ones_flat l) (by omega) fun v' s h1 h2 h3 h4 => ?_
    simp only [St.up_n, Nat.zero_add, List.nil_append] at h1 h2 h4
    simp -implicitDefEqProofs (disch := first | omega | (simp only [St.set_n, St.up_n, List.length_cons, List.length_nil]; omega)) only [go_sem, Nat.reduceAdd, Nat.reduceMul, Nat.reduceSub, Int.reduceAdd, Int.reduceMul, Int.reduceSub, Int.reduceNeg, Int.reduceToNat]
    have hb : ∀ b, blk v' = some b → σ.n ≤ b := fun b hb => by
      rcases h2 b hb with h | h
      · omega
      · simp only [blk, Option.some.injEq] at h; omega
    refine hK _ _ h1 (fun c x hx => ?_) (by omega) hb
    have hcn := (hwf.2 _ _ hx).2
    have hne : blk v' ≠ some c := fun e => by have := hb c e; omega
    exact ⟨(h3 c hne).trans (keep c x hx), hne⟩
set_option maxHeartbeats 4000000 in
theorem log_calls_nil (hK : ∀ k, σ.n ≤ k → K (.tuple #[.slice none 0 0, .bool true]) (σ.up k)) : Fn Tryz.prog B 14 #[.pointer none] σ K := by
  refine Fn.of' is14 (by simp) fun hwf => ?_
  simp only [b14, Tryz.f14, Option.getD_some]
  simp -implicitDefEqProofs (disch := first | omega | (simp only [St.set_n, St.up_n, List.length_cons, List.length_nil]; omega)) only [go_sem, Nat.reduceAdd, Nat.reduceMul, Nat.reduceSub, Int.reduceAdd, Int.reduceMul, Int.reduceSub, Int.reduceNeg, Int.reduceToNat]
  exact ⟨_, To.refl _ _, hK σ.n (Nat.le_refl _)⟩
theorem LgO.leave {p : Nat} {S : LS} {sv mv : Value} (h : LgO B σ τ p S sv mv) :
    ∃ σ'', To B τ σ'' ∧ σ''.m p = some (.comp (LogR S p)) ∧ σ''.n = τ.n ∧ ∀ c x, c ≠ p → τ.m c = some x → blk sv ≠ some c → mblk mv ≠ some c → σ''.m c = some x := by
  have hin1 : ∀ b, blk sv = some b → b ∈ p :: ((blk sv).toList ++ (mblk mv).toList) := fun b hb => List.mem_cons_of_mem _ (List.mem_append.2 (.inl (by simp [hb])))
  have hin2 : ∀ b, mblk mv = some b → b ∈ p :: ((blk sv).toList ++ (mblk mv).toList) := fun b hb => List.mem_cons_of_mem _ (List.mem_append.2 (.inr (by simp [hb])))
  have hR : LogR S p (pick τ (p :: ((blk sv).toList ++ (mblk mv).toList))) := by
    refine ⟨sv, mv, pick_of List.mem_cons_self h.root, h.own.keepR fun b o hb hm => ?_, h.offp, h.mp.keepR fun b o hb hm => ?_⟩
    · simp only [hs, pick_of (hin1 b hb) hm, Option.map_some]
    · simp only [hs, pick_of (hin2 b hb) hm, Option.map_some]
  refine ⟨τ.fold p (pick τ (p :: ((blk sv).toList ++ (mblk mv).toList))) (LogR S p), To.fold p _ (fun c o hc => ?_) ?_ hR, by simp [St.fold], rfl, fun c x hc hx h1 h2 => ?_⟩
  · unfold pick at hc
    split at hc
    · split at hc <;> first | contradiction | skip
      rename_i o2 hm
      cases hc; exact hm
    · cases hc
  · rw [pick_of List.mem_cons_self h.root]; rfl
  · have : c ∉ p :: ((blk sv).toList ++ (mblk mv).toList) := fun hm => by
      rcases List.mem_cons.1 hm with h4 | h4
      · exact hc h4
      · rcases List.mem_append.1 h4 with h4 | h4 <;> simp only [Option.mem_toList] at h4
        · exact h1 h4
        · exact h2 h4
    have hp : pick τ (p :: ((blk sv).toList ++ (mblk mv).toList)) c = none := by unfold pick; rw [if_neg this]
    simp only [St.fold, if_neg hc, hp, Option.isSome_none, Bool.false_eq_true, if_false]; exact hx
set_option maxHeartbeats 4000000 in
theorem log_calls {S : LS} {p : Nat} (hm : σ.m p = some (.comp (LogR S p))) (hl : S.l.length ≤ 100000)
    (hK : ∀ v s, Own s 69 15 (flat fC S.l) S.l.length v → (∀ c x, σ.m c = some x → s.m c = some x ∧ blk v ≠ some c) → σ.n ≤ s.n → (∀ b, blk v = some b → σ.n ≤ b) → K (.tuple #[v, .bool !(S.l.any fun c => decide (c.to = 0))]) s) :
    Fn Tryz.prog B 14 #[.pointer (some ⟨p, 0, none⟩)] σ K := by
  refine Fn.opnL hm is14 (by simp) fun sv mv τ hn O => ?_
  have hr := O.root
  obtain ⟨A, cap, rfl, _⟩ := O.own.is
  simp only [b14, Tryz.f14, Option.getD_some]
  simp -implicitDefEqProofs (disch := first | omega | (simp only [St.set_n, St.up_n, List.length_cons, List.length_nil]; omega)) only [go_sem, Nat.reduceAdd, Nat.reduceMul, Nat.reduceSub, Int.reduceAdd, Int.reduceMul, Int.reduceSub, Int.reduceNeg, Int.reduceToNat, hr]
  refine effD_plan [0, 1, 3, 7, 15, 0, 32, 96, 224, 511, 1023, 1023, 4095] [0, 1, 2, 3, 5, 6, 7, 8, 10, 11, 12] (.eag 0 (.eag 1 (.eag 2 (.eagq 3 (.eag 5 (.eag 6 (.eag 7 (.eagq 8 (.alt 4 [8] (.alt 9 [] (.eag 10 (.eag 11 (.eag 12 .fin))) .stop) .stop))))))))) (by kernel_rfl) ?_
  simp -implicitDefEqProofs (disch := first | omega | (simp only [St.set_n, St.up_n, List.length_cons, List.length_nil]; omega)) only [go_sem, Nat.reduceAdd, Nat.reduceMul, Nat.reduceSub, Int.reduceAdd, Int.reduceMul, Int.reduceSub, Int.reduceNeg, Int.reduceToNat, hr]
  refine callF_wf (call_clone hl O.own fun v s ov hk hn1 hnb hws => ?_)
  have O1 : LgO B σ s p S (.slice A S.l.length cap) mv := O.more hws (fun c x hx => (hk c x hx).1) hn1
  have hr1 := O1.root
  simp -implicitDefEqProofs (disch := first | omega | (simp only [St.set_n, St.up_n, List.length_cons, List.length_nil]; omega)) only [go_sem, Nat.reduceAdd, Nat.reduceMul, Nat.reduceSub, Int.reduceAdd, Int.reduceMul, Int.reduceSub, Int.reduceNeg, Int.reduceToNat, hr1]
  refine callF_of (call_any hl O1.own fun k hk2 => ?_)
  simp -implicitDefEqProofs (disch := first | omega | (simp only [St.set_n, St.up_n, List.length_cons, List.length_nil]; omega)) only [go_sem, Nat.reduceAdd, Nat.reduceMul, Nat.reduceSub, Int.reduceAdd, Int.reduceMul, Int.reduceSub, Int.reduceNeg, Int.reduceToNat]
  have O2 : LgO B σ (s.up k) p S (.slice A S.l.length cap) mv := O1.more (hws.up hk2) (fun c x hx => hx) hk2
  obtain ⟨σ'', hT, hp'', hn'', hkeep⟩ := O2.leave
  refine ⟨σ'', hT, hK v σ'' (ov.keepR fun b o hb ho => ?_) (fun c x hx => ?_) ?_ (fun b hb => by have := hnb b hb; omega)⟩
  · obtain ⟨z1, z2, z3⟩ := O.off (hnb b hb)
    exact hkeep b _ z1 ho z2 z3
  · by_cases hc : c = p
    · subst hc
      rw [hm] at hx; cases hx
      exact ⟨hp'', (hk c _ O.root).2⟩
    · obtain ⟨h1, h2, h3⟩ := O2.fr c x hc hx
      exact ⟨hkeep c x hc h1 h2 h3, (hk c x (O.fr c x hc hx).1).2⟩
  · have := O2.n; rw [hn'']; exact this
end
end Go.Proofs.YtdbgeahmhfocaaaGreat

/- A bounded queue's slots, by its contents: plain laws. -/
namespace Go.Proofs.YtdbgeahmhfocaaaGreat
set_option linter.unusedSimpArgs false
set_option linter.unusedVariables false
open Go Go.RowKit

/-- How far a slot lies from the next one that is got from. -/
def dist (G n j : Nat) : Nat := (j + n - G % n) % n
theorem mod_inj {G n d d' : Nat} (hd : d < n) (hd' : d' < n) (h : (G + d) % n = (G + d') % n) : d = d' := by
  have key : ∀ a b, a ≤ b → b < n → (G + a) % n = (G + b) % n → a = b := fun a b hab hb h => by
    have h1 := Nat.sub_mod_eq_zero_of_mod_eq h.symm
    have h2 : G + b - (G + a) = b - a := by omega
    rw [h2, Nat.mod_eq_of_lt (by omega)] at h1
    omega
  rcases Nat.le_total d d' with h1 | h1
  · exact key d d' h1 hd' h
  · exact (key d' d h1 hd h.symm).symm
theorem dist_lt {G n j : Nat} (hn : 0 < n) : dist G n j < n := Nat.mod_lt _ hn
theorem dist_spec {G n j : Nat} (hj : j < n) : (G + dist G n j) % n = j := by
  have hn : 0 < n := by omega
  have ha := Nat.mod_lt G hn
  unfold dist
  rw [Nat.add_mod_mod]
  have h1 : G + (j + n - G % n) = j + n * (G / n + 1) := by
    have := Nat.div_add_mod G n
    rw [Nat.mul_add]; omega
  rw [h1, Nat.add_mul_mod_self_left, Nat.mod_eq_of_lt hj]
theorem dist_uniq {G n j d : Nat} (hj : j < n) (hd : d < n) (h : (G + d) % n = j) : dist G n j = d :=
  mod_inj (dist_lt (by omega)) hd ((dist_spec hj).trans h.symm)
theorem dist_of {G n k : Nat} (hk : k < n) : dist G n ((G + k) % n) = k := dist_uniq (Nat.mod_lt _ (by omega)) hk rfl
theorem dist_full {G n : Nat} (hn : 0 < n) : dist G n ((G + n) % n) = 0 := dist_uniq (Nat.mod_lt _ hn) hn (by simp)
theorem dist_succ {G n j : Nat} (hj : j < n) : dist (G + 1) n j = if dist G n j = 0 then n - 1 else dist G n j - 1 := by
  have h0 := dist_spec (G := G) hj
  have hl := dist_lt (G := G) (j := j) (show 0 < n by omega)
  apply dist_uniq hj
  · split <;> omega
  · split
    · rename_i h; rw [h, Nat.add_zero] at h0
      have : G + 1 + (n - 1) = G + n := by omega
      rw [this, Nat.add_mod_right]; exact h0
    · have : G + 1 + (dist G n j - 1) = G + dist G n j := by omega
      rw [this]; exact h0

/-- A message. -/
structure Mg where
  topic : ByteArray
  pay : ByteArray
  kept : Bool
def m0 : Mg := ⟨⟨#[]⟩, ⟨#[]⟩, false⟩
def fM (x : Mg) : List Value := [.string x.topic, .string x.pay, .bool x.kept]
/-- What a slot holds: a number, and the sequence number. -/
def slotAt (L : List Mg) (G n j : Nat) : Mg × Int :=
  if dist G n j < L.length then (L.getD (dist G n j) m0, 2 * (G + dist G n j : Nat) + 1) else (m0, 2 * (G + dist G n j : Nat))
def slots (L : List Mg) (G n : Nat) : List (Mg × Int) := (List.range n).map (slotAt L G n)
def fSl (x : Mg × Int) : List Value := [.string x.1.topic, .string x.1.pay, .bool x.1.kept, .int .i64 x.2]
theorem fSl_len (x : Mg × Int) : (fSl x).length = 4 := rfl
theorem slots_len (L : List Mg) (G n : Nat) : (slots L G n).length = n := by simp [slots]
theorem slots_get {L : List Mg} {G n j : Nat} (hj : j < n) : (slots L G n)[j]? = some (slotAt L G n j) := by simp [slots, hj]
theorem slots_set {L L' : List Mg} {G G' n j : Nat} {x : Mg × Int} (hx : slotAt L' G' n j = x) (ho : ∀ i, i < n → i ≠ j → slotAt L' G' n i = slotAt L G n i) : (slots L G n).set j x = slots L' G' n := by
  apply List.ext_getElem?
  intro i
  by_cases hi : i < n
  · by_cases hij : i = j
    · subst hij
      rw [List.getElem?_set_self (by rw [slots_len]; exact hi), slots_get hi, hx]
    · rw [List.getElem?_set_ne (Ne.symm hij), slots_get hi, slots_get hi, ho i hi hij]
  · rw [List.getElem?_eq_none (by rw [List.length_set, slots_len]; omega), List.getElem?_eq_none (by rw [slots_len]; omega)]
theorem slot_put {L : List Mg} {G n : Nat} (hn : 0 < n) (hL : L.length ≤ n) : slotAt L G n ((G + L.length) % n) = if L.length < n then ((m0, 2 * ((G + L.length : Nat) : Int)) : Mg × Int) else (L.getD 0 m0, 2 * (G : Int) + 1) := by
  unfold slotAt
  by_cases h : L.length < n
  · rw [dist_of h, if_neg (by omega), if_pos h]
  · have : L.length = n := by omega
    rw [this, dist_full hn, if_pos hn, if_neg (by omega), Nat.add_zero]
theorem slot_get {L : List Mg} {G n : Nat} (hn : 0 < n) : slotAt L G n (G % n) = if L.length = 0 then ((m0, 2 * (G : Int)) : Mg × Int) else (L.getD 0 m0, 2 * (G : Int) + 1) := by
  have h0 := dist_of (G := G) (n := n) (k := 0) hn
  rw [Nat.add_zero] at h0
  unfold slotAt
  rw [h0]
  by_cases h : L.length = 0
  · rw [if_neg (by omega), if_pos h, Nat.add_zero]
  · rw [if_pos (by omega), if_neg h, Nat.add_zero]
theorem slots_put {L : List Mg} {G n : Nat} (hL : L.length < n) (x : Mg) : (slots L G n).set ((G + L.length) % n) (x, 2 * (G + L.length : Nat) + 1) = slots (L ++ [x]) G n := by
  refine slots_set ?_ fun i hi hne => ?_
  · unfold slotAt
    rw [dist_of hL, if_pos (by simp)]
    simp [List.getD]
  · unfold slotAt
    have hd : dist G n i ≠ L.length := fun h => hne (by rw [← h, dist_spec hi])
    by_cases h : dist G n i < L.length
    · rw [if_pos (by simp; omega), if_pos h]
      simp only [List.getD]
      rw [List.getElem?_append_left h]
    · rw [if_neg (by simp; omega), if_neg h]
theorem slots_take {y : Mg} {L : List Mg} {G n : Nat} (hL : (y :: L).length ≤ n) : (slots (y :: L) G n).set (G % n) (m0, 2 * (G + n : Nat)) = slots L (G + 1) n := by
  have hn : 0 < n := by simp at hL; omega
  have h0 := dist_of (G := G) (n := n) (k := 0) hn
  rw [Nat.add_zero] at h0
  refine slots_set ?_ fun i hi hne => ?_
  · unfold slotAt
    rw [dist_succ (Nat.mod_lt _ hn), h0, if_pos rfl, if_neg (by simp at hL; omega)]
    have : G + 1 + (n - 1) = G + n := by omega
    rw [this]
  · have hd : dist G n i ≠ 0 := fun h => hne (by rw [← dist_spec (G := G) hi, h, Nat.add_zero])
    unfold slotAt
    rw [dist_succ hi, if_neg hd]
    obtain ⟨k, hk⟩ := Nat.exists_eq_succ_of_ne_zero hd
    rw [hk]
    have e1 : G + 1 + (k.succ - 1) = G + k.succ := by omega
    have e2 : k.succ - 1 = k := by omega
    rw [e1, e2]
    by_cases h : k < L.length
    · rw [if_pos h, if_pos (by simp; omega)]; simp [List.getD]
    · rw [if_neg h, if_neg (by simp; omega)]
theorem slots_new (n : Nat) : slots [] 0 n = (List.range n).map fun (j : Nat) => ((m0, 2 * (j : Int)) : Mg × Int) := by
  apply List.map_congr_left
  intro j hj
  have := List.mem_range.1 hj
  unfold slotAt
  have : dist 0 n j = j := dist_uniq this this (by simp [Nat.mod_eq_of_lt this])
  simp [this]
end Go.Proofs.YtdbgeahmhfocaaaGreat

/- What a ring's functions come to: contracts, by walks. -/
namespace Go.Proofs.YtdbgeahmhfocaaaGreat
set_option linter.unusedSimpArgs false
set_option linter.unusedVariables false
set_option maxRecDepth 100000
open Go Go.RowKit
section
variable {B : World} {σ : St} {K : Value → St → Prop}
structure IsRing (σ : St) (r b n : Nat) (L : List Mg) (G : Nat) (D : Int) : Prop where
  ne : r ≠ b
  pos : 0 < n
  big : n ≤ 1024
  full : L.length ≤ n
  low : G ≤ 1000000000000
  root : σ.m r = some (.raw (.cells #[.slice (some ⟨b, 0, none⟩) n n, .int .i64 (G + L.length : Nat), .int .i64 G, .int .i64 D] 149 (0, 0)))
  row : σ.m b = some (.raw (.cells (flat fSl (slots L G n)).toArray 151 (0, 0)))
theorem slot_cells {S : List (Mg × Int)} {i : Nat} {x : Mg × Int} (h : S[i]? = some x) :
    (flat fSl S).toArray[i * 4]? = some (.string x.1.topic) ∧ (flat fSl S).toArray[i * 4 + 1]? = some (.string x.1.pay) ∧ (flat fSl S).toArray[i * 4 + 2]? = some (.bool x.1.kept) ∧ (flat fSl S).toArray[i * 4 + 3]? = some (.int .i64 x.2) := by
  have h0 := flat_get fSl_len S [] i x 0 _ h rfl
  have h1 := flat_get fSl_len S [] i x 1 _ h rfl
  have h2 := flat_get fSl_len S [] i x 2 _ h rfl
  have h3 := flat_get fSl_len S [] i x 3 _ h rfl
  simp only [List.append_nil, Nat.add_zero] at h0 h1 h2 h3
  simp [h0, h1, h2, h3]
theorem get_setS {L : List (Mg × Int)} {i : Nat} {x y : Mg × Int} (h : L[i]? = some x) : (L.set i y)[i]? = some y := by
  have := (List.getElem?_eq_some_iff.1 h).1
  simp [this]
theorem flat_set0 {S : List (Mg × Int)} {i k j : Nat} {x x' : Mg × Int} {v : Value} (h : S[i]? = some x) (hj : j < 4) (hx : fSl x' = (fSl x).set j v) (hk : k = i * 4 + j) : (flat fSl S).set k v = flat fSl (S.set i x') := by
  subst hk
  have := flat_set fSl_len S [] i x x' j v h hj hx
  simpa using this
/-- A message is put into a slot. -/
theorem slot_msg {S : List (Mg × Int)} {i : Nat} {x : Mg × Int} (h : S[i]? = some x) (y : Mg) : (((flat fSl S).set (i * 4) (.string y.topic)).set (i * 4 + 1) (.string y.pay)).set (i * 4 + 1 + 1) (.bool y.kept) = flat fSl (S.set i (y, x.2)) := by
  have e0 : (flat fSl S).set (i * 4) (.string y.topic) = flat fSl (S.set i (⟨y.topic, x.1.pay, x.1.kept⟩, x.2)) := flat_set0 (j := 0) h (by omega) rfl rfl
  have e1 : (flat fSl (S.set i (⟨y.topic, x.1.pay, x.1.kept⟩, x.2))).set (i * 4 + 1) (.string y.pay) = flat fSl ((S.set i (⟨y.topic, x.1.pay, x.1.kept⟩, x.2)).set i (⟨y.topic, y.pay, x.1.kept⟩, x.2)) := flat_set0 (j := 1) (get_setS h) (by omega) rfl rfl
  have e2 : i * 4 + 1 + 1 = i * 4 + 2 := rfl
  have e3 : (flat fSl (S.set i (⟨y.topic, y.pay, x.1.kept⟩, x.2))).set (i * 4 + 2) (.bool y.kept) = flat fSl ((S.set i (⟨y.topic, y.pay, x.1.kept⟩, x.2)).set i (y, x.2)) := flat_set0 (j := 2) (get_setS h) (by omega) rfl rfl
  rw [e0, e1, e2, List.set_set, e3, List.set_set]
theorem slot_seq {S : List (Mg × Int)} {i : Nat} {x : Mg × Int} (h : S[i]? = some x) (v : Int) : (flat fSl S).set (i * 4 + 3) (.int .i64 v) = flat fSl (S.set i (x.1, v)) := flat_set0 h (by omega) rfl rfl
theorem ring_drops {r b n G : Nat} {L : List Mg} {D : Int} (h : IsRing σ r b n L G D) (hK : K (.int .i64 D) σ) : Fn Tryz.prog B 59 #[.pointer (some ⟨r, 0, none⟩)] σ K := by
  refine Fn.of is59 (by simp) fun hwf => ?_
  simp only [b59, Tryz.f59, Option.getD_some]
  have hr := h.root
  simp -implicitDefEqProofs (disch := first | omega | (simp only [St.set_n, St.up_n, List.length_cons, List.length_nil]; omega)) only [go_sem, Nat.reduceAdd, Nat.reduceMul, Nat.reduceSub, Int.reduceAdd, Int.reduceMul, Int.reduceSub, Int.reduceNeg, Int.reduceToNat, hr]
  exact hK
theorem ring_at {r b n G : Nat} {L : List Mg} {D : Int} (h : IsRing σ r b n L G D) {t : Nat} (hK : K (.pointer (some ⟨b, t % n * 4, none⟩)) σ) : Fn Tryz.prog B 62 #[.pointer (some ⟨r, 0, none⟩), .int .i64 t] σ K := by
  have hr := h.root
  have hn := h.pos
  have ht : (t : Int).tmod n = ((t % n : Nat) : Int) := by rw [Int.tmod_eq_emod_of_nonneg (by omega), Int.natCast_emod]
  have h1 : ((t % n : Nat) : Int) < n := Int.ofNat_lt.2 (Nat.mod_lt _ hn)
  have h2 : ¬ (n : Int) = 0 := by omega
  refine Fn.of is62 (by simp) fun hwf => ?_
  simp only [b62, Tryz.f62, Option.getD_some]
  simp -implicitDefEqProofs (disch := first | omega | (simp only [St.set_n, St.up_n, List.length_cons, List.length_nil]; omega)) only [go_sem, Nat.reduceAdd, Nat.reduceMul, Nat.reduceSub, Int.reduceAdd, Int.reduceMul, Int.reduceSub, Int.reduceNeg, Int.reduceToNat, hr, ht, h1, h2]
  exact hK
set_option maxHeartbeats 4000000 in
theorem ring_put {r b n G : Nat} {L : List Mg} {D : Int} {x : Mg} (h : IsRing σ r b n L G D) (hG : G + n ≤ 1000000000000)
    (hK : ∀ τ, IsRing τ r b n (if L.length < n then L ++ [x] else L) G (if L.length < n then D else IntKind.i64.wrap (D + 1)) → σ.n ≤ τ.n → (∀ c y, c ≠ r → c ≠ b → σ.m c = some y → τ.m c = some y) → K (.bool (decide (L.length < n))) τ) :
    Fn Tryz.prog B 32 #[.pointer (some ⟨r, 0, none⟩), .agg (fM x).toArray] σ K := by
  have hr := h.root
  have hb := h.row
  have hn := h.pos
  have h1 := h.full
  have h2 := h.low
  have h3 := h.big
  have hne := h.ne
  have hj : (G + L.length) % n < n := Nat.mod_lt _ hn
  have hs := slots_get (L := L) (G := G) hj
  obtain ⟨c0, c1, c2, c3⟩ := slot_cells hs
  refine Fn.of is32 (by simp) fun hwf => ?_
  have hrn := (hwf.2 _ _ hr).2
  have hbn := (hwf.2 _ _ hb).2
  simp only [b32, Tryz.f32, Option.getD_some]
  simp -implicitDefEqProofs (disch := first | omega | (simp only [St.set_n, St.up_n, List.length_cons, List.length_nil]; omega)) only [go_sem, Nat.reduceAdd, Nat.reduceMul, Nat.reduceSub, Int.reduceAdd, Int.reduceMul, Int.reduceSub, Int.reduceNeg, Int.reduceToNat, hr, fM]
  have hsl := slot_put (G := G) hn h1
  have hput := slots_put (L := L) (G := G) (n := n)
  have hlen : (flat fSl (slots L G n)).length = n * 4 := by rw [flat_length fSl_len, slots_len]
  refine callF_of (ring_at (σ := (σ.set σ.n (.raw (.cells #[.string x.topic, .string x.pay, .bool x.kept] 40 (0, 0)))).up (σ.n + 1)) (r := r) (b := b) (n := n) (L := L) (G := G) (D := D) ⟨hne, hn, h3, h1, h2, by simp -implicitDefEqProofs (disch := first | omega | (simp only [St.set_n, St.up_n, List.length_cons, List.length_nil]; omega)) only [go_sem, Nat.reduceAdd, Nat.reduceMul, Nat.reduceSub, Int.reduceAdd, Int.reduceMul, Int.reduceSub, Int.reduceNeg, Int.reduceToNat, hr], by simp -implicitDefEqProofs (disch := first | omega | (simp only [St.set_n, St.up_n, List.length_cons, List.length_nil]; omega)) only [go_sem, Nat.reduceAdd, Nat.reduceMul, Nat.reduceSub, Int.reduceAdd, Int.reduceMul, Int.reduceSub, Int.reduceNeg, Int.reduceToNat, hb]⟩ ?_)
  generalize hjd : (G + L.length) % n = j at hsl hput hj hs c0 c1 c2 c3 ⊢
  by_cases hlt : L.length < n
  · rw [if_pos hlt] at hsl
    simp only [hsl] at c0 c1 c2 c3 hs
    simp only [if_pos hlt, hlt, decide_true] at hK
    have e1 := slot_msg hs x
    have e2 := slot_seq (get_setS hs (y := (x, 2 * ((G + L.length : Nat) : Int)))) (2 * ((G + L.length : Nat) : Int) + 1)
    rw [List.set_set] at e2
    have hs2 : (flat fSl ((slots L G n).set j (x, 2 * ((G + L.length : Nat) : Int)))).length = n * 4 := by rw [flat_length fSl_len, List.length_set, slots_len]
    simp -implicitDefEqProofs (disch := first | omega | (simp only [St.set_n, St.up_n, List.length_cons, List.length_nil]; omega)) only [go_sem, Nat.reduceAdd, Nat.reduceMul, Nat.reduceSub, Int.reduceAdd, Int.reduceMul, Int.reduceSub, Int.reduceNeg, Int.reduceToNat, hr, hb, c3, hlen]
    refine effD_plan [0, 0, 0, 0, 8, 24, 56, 120, 248, 125, 637, 1661, 4095, 8191, 16383] [0, 1, 2, 3, 4, 5, 6, 7, 8, 9, 10, 12, 13] (.eag 0 (.eag 1 (.eagq 2 (.eag 3 (.eag 4 (.eag 5 (.eagq 6 (.eag 7 (.eag 8 (.eag 9 (.eag 10 (.alt 11 [] (.eag 12 (.eag 13 (.alt 14 [] .fin .stop))) .stop)))))))))))) (by kernel_rfl) ?_
    simp -implicitDefEqProofs (disch := first | omega | (simp only [St.set_n, St.up_n, List.length_cons, List.length_nil]; omega)) only [go_sem, Nat.reduceAdd, Nat.reduceMul, Nat.reduceSub, Int.reduceAdd, Int.reduceMul, Int.reduceSub, Int.reduceNeg, Int.reduceToNat, hr, hb, c3, hlen, e1, hs2, e2]
    refine hK _ ⟨hne, hn, h3, ?_, h2, ?_, ?_⟩ (by simp only [St.up_n, St.set_n]; omega) fun c y hc hc' hy => ?_
    · simp; omega
    · simp -implicitDefEqProofs (disch := first | omega | (simp only [St.set_n, St.up_n, List.length_cons, List.length_nil]; omega)) only [go_sem, Nat.reduceAdd, Nat.reduceMul, Nat.reduceSub, Int.reduceAdd, Int.reduceMul, Int.reduceSub, Int.reduceNeg, Int.reduceToNat]
      simp only [if_true, List.length_append, List.length_cons, List.length_nil]
      simp
      omega
    · simp -implicitDefEqProofs (disch := first | omega | (simp only [St.set_n, St.up_n, List.length_cons, List.length_nil]; omega)) only [go_sem, Nat.reduceAdd, Nat.reduceMul, Nat.reduceSub, Int.reduceAdd, Int.reduceMul, Int.reduceSub, Int.reduceNeg, Int.reduceToNat]
      rw [hput hlt x]
      try simp
    · have := (hwf.2 _ _ hy).2
      simp -implicitDefEqProofs (disch := first | omega | (simp only [St.set_n, St.up_n, List.length_cons, List.length_nil]; omega)) only [go_sem, Nat.reduceAdd, Nat.reduceMul, Nat.reduceSub, Int.reduceAdd, Int.reduceMul, Int.reduceSub, Int.reduceNeg, Int.reduceToNat, hy]
  · have hLn : L.length = n := by omega
    rw [if_neg hlt] at hsl
    simp only [hsl] at c0 c1 c2 c3 hs
    simp only [if_neg hlt, hlt, decide_false] at hK
    have hne2 : ¬ 2 * (G : Int) + 1 = 2 * ((G + L.length : Nat) : Int) := by omega
    simp -implicitDefEqProofs (disch := first | omega | (simp only [St.set_n, St.up_n, List.length_cons, List.length_nil]; omega)) only [go_sem, Nat.reduceAdd, Nat.reduceMul, Nat.reduceSub, Int.reduceAdd, Int.reduceMul, Int.reduceSub, Int.reduceNeg, Int.reduceToNat, hr, hb, c3, hlen, hne2]
    refine hK _ ⟨hne, hn, h3, h1, h2, ?_, ?_⟩ (by simp only [St.up_n, St.set_n]; omega) fun c y hc hc' hy => ?_
    · simp -implicitDefEqProofs (disch := first | omega | (simp only [St.set_n, St.up_n, List.length_cons, List.length_nil]; omega)) only [go_sem, Nat.reduceAdd, Nat.reduceMul, Nat.reduceSub, Int.reduceAdd, Int.reduceMul, Int.reduceSub, Int.reduceNeg, Int.reduceToNat]
      try simp
    · simp -implicitDefEqProofs (disch := first | omega | (simp only [St.set_n, St.up_n, List.length_cons, List.length_nil]; omega)) only [go_sem, Nat.reduceAdd, Nat.reduceMul, Nat.reduceSub, Int.reduceAdd, Int.reduceMul, Int.reduceSub, Int.reduceNeg, Int.reduceToNat, hb]
      try simp
    · have := (hwf.2 _ _ hy).2
      simp -implicitDefEqProofs (disch := first | omega | (simp only [St.set_n, St.up_n, List.length_cons, List.length_nil]; omega)) only [go_sem, Nat.reduceAdd, Nat.reduceMul, Nat.reduceSub, Int.reduceAdd, Int.reduceMul, Int.reduceSub, Int.reduceNeg, Int.reduceToNat, hy]
set_option maxHeartbeats 4000000 in
theorem ring_get {r b n G : Nat} {L : List Mg} {D : Int} (h : IsRing σ r b n L G D) (hG : G + n ≤ 1000000000000)
    (hK : ∀ τ, IsRing τ r b n L.tail (if L.length = 0 then G else G + 1) D → σ.n ≤ τ.n → (∀ c y, c ≠ r → c ≠ b → σ.m c = some y → τ.m c = some y) → K (.tuple #[.agg (fM (L.getD 0 m0)).toArray, .bool (decide (¬ L.length = 0))]) τ) :
    Fn Tryz.prog B 57 #[.pointer (some ⟨r, 0, none⟩)] σ K := by
  have hr := h.root
  have hb := h.row
  have hn := h.pos
  have h1 := h.full
  have h2 := h.low
  have h3 := h.big
  have hne := h.ne
  have hj : G % n < n := Nat.mod_lt _ hn
  have hs := slots_get (L := L) (G := G) hj
  obtain ⟨c0, c1, c2, c3⟩ := slot_cells hs
  refine Fn.of is57 (by simp) fun hwf => ?_
  have hrn := (hwf.2 _ _ hr).2
  have hbn := (hwf.2 _ _ hb).2
  simp only [b57, Tryz.f57, Option.getD_some]
  simp -implicitDefEqProofs (disch := first | omega | (simp only [St.set_n, St.up_n, List.length_cons, List.length_nil]; omega)) only [go_sem, Nat.reduceAdd, Nat.reduceMul, Nat.reduceSub, Int.reduceAdd, Int.reduceMul, Int.reduceSub, Int.reduceNeg, Int.reduceToNat, hr]
  refine callF_of (ring_at (r := r) (b := b) (n := n) (L := L) (G := G) (D := D) ⟨hne, hn, h3, h1, h2, by simp -implicitDefEqProofs (disch := first | omega | (simp only [St.set_n, St.up_n, List.length_cons, List.length_nil]; omega)) only [go_sem, Nat.reduceAdd, Nat.reduceMul, Nat.reduceSub, Int.reduceAdd, Int.reduceMul, Int.reduceSub, Int.reduceNeg, Int.reduceToNat, hr], by simp -implicitDefEqProofs (disch := first | omega | (simp only [St.set_n, St.up_n, List.length_cons, List.length_nil]; omega)) only [go_sem, Nat.reduceAdd, Nat.reduceMul, Nat.reduceSub, Int.reduceAdd, Int.reduceMul, Int.reduceSub, Int.reduceNeg, Int.reduceToNat, hb]⟩ ?_)
  have hsl := slot_get (L := L) (G := G) hn
  have hlen : (flat fSl (slots L G n)).length = n * 4 := by rw [flat_length fSl_len, slots_len]
  cases L with
  | nil =>
    generalize hjd : G % n = j at hsl hj hs c0 c1 c2 c3 ⊢
    simp only [List.length_nil, if_true] at hsl
    simp only [hsl] at c0 c1 c2 c3 hs
    have hne2 : ¬ 2 * (G : Int) = 2 * (G : Int) + 1 := by omega
    simp -implicitDefEqProofs (disch := first | omega | (simp only [St.set_n, St.up_n, List.length_cons, List.length_nil]; omega)) only [go_sem, Nat.reduceAdd, Nat.reduceMul, Nat.reduceSub, Int.reduceAdd, Int.reduceMul, Int.reduceSub, Int.reduceNeg, Int.reduceToNat, hr, hb, c3, hlen, hne2]
    refine hK _ ⟨hne, hn, h3, h1, h2, ?_, ?_⟩ (by simp only [St.up_n, St.set_n]; omega) fun c y hc hc' hy => ?_
    · simp -implicitDefEqProofs (disch := first | omega | (simp only [St.set_n, St.up_n, List.length_cons, List.length_nil]; omega)) only [go_sem, Nat.reduceAdd, Nat.reduceMul, Nat.reduceSub, Int.reduceAdd, Int.reduceMul, Int.reduceSub, Int.reduceNeg, Int.reduceToNat, hr]
      simp
    · simp -implicitDefEqProofs (disch := first | omega | (simp only [St.set_n, St.up_n, List.length_cons, List.length_nil]; omega)) only [go_sem, Nat.reduceAdd, Nat.reduceMul, Nat.reduceSub, Int.reduceAdd, Int.reduceMul, Int.reduceSub, Int.reduceNeg, Int.reduceToNat, hb]
      simp
    · have := (hwf.2 _ _ hy).2
      simp -implicitDefEqProofs (disch := first | omega | (simp only [St.set_n, St.up_n, List.length_cons, List.length_nil]; omega)) only [go_sem, Nat.reduceAdd, Nat.reduceMul, Nat.reduceSub, Int.reduceAdd, Int.reduceMul, Int.reduceSub, Int.reduceNeg, Int.reduceToNat, hy]
  | cons y L =>
    have htake := slots_take (y := y) (L := L) (G := G) (n := n) h1
    generalize hjd : G % n = j at hsl htake hj hs c0 c1 c2 c3 ⊢
    have hl0 : ¬ (y :: L).length = 0 := by simp
    rw [if_neg hl0] at hsl
    simp only [hsl] at c0 c1 c2 c3 hs
    have e1 : (((flat fSl (slots (y :: L) G n)).set (j * 4) (.string ⟨#[]⟩)).set (j * 4 + 1) (.string ⟨#[]⟩)).set (j * 4 + 1 + 1) (.bool false) = flat fSl ((slots (y :: L) G n).set j (m0, 2 * (G : Int) + 1)) := slot_msg hs m0
    have e2 : (flat fSl ((slots (y :: L) G n).set j (m0, 2 * (G : Int) + 1))).set (j * 4 + 1 + 1 + 1) (.int .i64 (2 * ((G + n : Nat) : Int))) = flat fSl (slots L (G + 1) n) := by
      have := slot_seq (get_setS hs (y := (m0, 2 * (G : Int) + 1))) (2 * ((G + n : Nat) : Int))
      rw [List.set_set, htake] at this
      exact this
    have e3 : 2 * ((G : Int) + n) = 2 * ((G + n : Nat) : Int) := by omega
    have hs2 : (flat fSl ((slots (y :: L) G n).set j (m0, 2 * (G : Int) + 1))).length = n * 4 := by rw [flat_length fSl_len, List.length_set, slots_len]
    simp -implicitDefEqProofs (disch := first | omega | (simp only [St.set_n, St.up_n, List.length_cons, List.length_nil]; omega)) only [go_sem, Nat.reduceAdd, Nat.reduceMul, Nat.reduceSub, Int.reduceAdd, Int.reduceMul, Int.reduceSub, Int.reduceNeg, Int.reduceToNat, hr, hb, c0, c1, c2, c3, hlen, e3]
    refine effD_plan [0, 0, 2, 6, 14, 0, 32, 96, 224, 480, 1022, 2046, 4094, 8191, 16383] [0, 1, 2, 3, 4, 5, 6, 7, 8, 9, 10, 11, 12, 13] (.eag 0 (.eag 1 (.eag 2 (.eag 3 (.eagq 4 (.eag 5 (.eag 6 (.eag 7 (.eagq 8 (.eagq 9 (.eag 10 (.eag 11 (.eag 12 (.eag 13 (.alt 14 [] .fin .stop))))))))))))))) (by kernel_rfl) ?_
    simp -implicitDefEqProofs (disch := first | omega | (simp only [St.set_n, St.up_n, List.length_cons, List.length_nil]; omega)) only [go_sem, Nat.reduceAdd, Nat.reduceMul, Nat.reduceSub, Int.reduceAdd, Int.reduceMul, Int.reduceSub, Int.reduceNeg, Int.reduceToNat, hr, hb, c0, c1, c2, c3, hlen, e3, hs2]
    rw [e1, e2]
    refine hK _ ⟨hne, hn, h3, by simp at h1 ⊢; omega, by simp; omega, ?_, ?_⟩ (by simp only [St.up_n, St.set_n]; omega) fun c y' hc hc' hy => ?_
    · simp -implicitDefEqProofs (disch := first | omega | (simp only [St.set_n, St.up_n, List.length_cons, List.length_nil]; omega)) only [go_sem, Nat.reduceAdd, Nat.reduceMul, Nat.reduceSub, Int.reduceAdd, Int.reduceMul, Int.reduceSub, Int.reduceNeg, Int.reduceToNat]
      simp
      omega
    · simp -implicitDefEqProofs (disch := first | omega | (simp only [St.set_n, St.up_n, List.length_cons, List.length_nil]; omega)) only [go_sem, Nat.reduceAdd, Nat.reduceMul, Nat.reduceSub, Int.reduceAdd, Int.reduceMul, Int.reduceSub, Int.reduceNeg, Int.reduceToNat]
      try simp
    · have := (hwf.2 _ _ hy).2
      simp -implicitDefEqProofs (disch := first | omega | (simp only [St.set_n, St.up_n, List.length_cons, List.length_nil]; omega)) only [go_sem, Nat.reduceAdd, Nat.reduceMul, Nat.reduceSub, Int.reduceAdd, Int.reduceMul, Int.reduceSub, Int.reduceNeg, Int.reduceToNat, hy]
theorem zc_slots {z : Value} (h : z.cells = #[.string ⟨#[]⟩, .string ⟨#[]⟩, .bool false, .int .i64 0]) (n : Nat) : zc z (n * 4) = (flat fSl (List.replicate n (m0, 0))).toArray := by
  have hl : (zc z (n * 4)).size = n * 4 := by simp [zc, zcells]
  apply Array.ext
  · rw [hl]; simp [flat_length fSl_len]
  · intro i h1 h2
    rw [hl] at h1
    have hi : i = i / 4 * 4 + i % 4 := by omega
    have hq : i / 4 < n := by omega
    have hL : (List.replicate n ((m0, 0) : Mg × Int))[i / 4]? = some (m0, 0) := by simp [hq]
    have h3 : i % 4 = 0 ∨ i % 4 = 1 ∨ i % 4 = 2 ∨ i % 4 = 3 := by omega
    have e1 : (zc z (n * 4))[i]? = (fSl (m0, 0))[i % 4]? := by
      simp only [zc, zcells, h, Array.getElem?_map]
      rw [Array.getElem?_range]
      simp only [h1, if_true, Option.map_some, List.size_toArray, List.length_cons, List.length_nil]
      rcases h3 with h3 | h3 | h3 | h3 <;> simp [h3, fSl, m0]
    have e2 : (flat fSl (List.replicate n (m0, 0))).toArray[i]? = (fSl (m0, 0))[i % 4]? := by
      obtain ⟨v, hv⟩ : ∃ v, (fSl (m0, 0))[i % 4]? = some v := by rcases h3 with h3 | h3 | h3 | h3 <;> rw [h3] <;> exact ⟨_, rfl⟩
      have := flat_get fSl_len (List.replicate n (m0, 0)) [] (i / 4) (m0, 0) (i % 4) v hL hv
      rw [← hi] at this
      rw [hv]
      simpa using this
    have e3 := e1.trans e2.symm
    rw [Array.getElem?_eq_getElem (by rw [hl]; exact h1), Array.getElem?_eq_getElem h2] at e3
    exact Option.some.inj e3
def numb (n i : Nat) : List (Mg × Int) := (List.range n).map fun j => if j < i then (m0, 2 * (j : Int)) else (m0, 0)
theorem numb_get {n i : Nat} (hi : i < n) : (numb n i)[i]? = some (m0, 0) := by simp [numb, hi]
theorem numb_set {n i : Nat} (hi : i < n) : (numb n i).set i (m0, 2 * (i : Int)) = numb n (i + 1) := by
  apply List.ext_getElem?
  intro j
  by_cases hj : j < n
  · by_cases hij : i = j
    · subst hij
      rw [List.getElem?_set_self (by simp [numb, hi])]
      simp [numb, hi]
    · rw [List.getElem?_set_ne hij]
      have : j < i ↔ j < i + 1 := by omega
      simp [numb, hj, this]
  · rw [List.getElem?_eq_none (by simp [numb]; omega), List.getElem?_eq_none (by simp [numb]; omega)]
theorem numb_all (n : Nat) : numb n n = slots [] 0 n := by
  rw [slots_new]
  apply List.map_congr_left
  intro j hj
  rw [if_pos (List.mem_range.1 hj)]
theorem numb_none (n : Nat) : numb n 0 = List.replicate n (m0, 0) := by
  apply List.ext_getElem?
  intro j
  by_cases hj : j < n <;> simp [numb, hj]
def ringN (s : Int) : Nat := (max (min s 1024) 1).toNat
theorem ring_new {s : Int} (hK : ∀ τ, IsRing τ (σ.n + 1) σ.n (ringN s) [] 0 0 → τ.n = σ.n + 2 → (∀ c, c < σ.n → τ.m c = σ.m c) → K (.pointer (some ⟨σ.n + 1, 0, none⟩)) τ) : Fn Tryz.prog B 29 #[.int .i64 s] σ K := by
  have hN : ((ringN s : Nat) : Int) = max (min s 1024) 1 := by unfold ringN; omega
  have hN1 : 0 < ringN s := by unfold ringN; omega
  have hN2 : ringN s ≤ 1024 := by unfold ringN; omega
  refine Fn.of is29 (by simp) fun hwf => ?_
  simp only [b29, Tryz.f29, Option.getD_some]
  simp -implicitDefEqProofs (disch := first | omega | (simp only [St.set_n, St.up_n, List.length_cons, List.length_nil]; omega)) only [go_sem, Nat.reduceAdd, Nat.reduceMul, Nat.reduceSub, Int.reduceAdd, Int.reduceMul, Int.reduceSub, Int.reduceNeg, Int.reduceToNat]
  rw [← hN]
  simp -implicitDefEqProofs (disch := first | omega | (simp only [St.set_n, St.up_n, List.length_cons, List.length_nil]; omega)) only [go_sem, Nat.reduceAdd, Nat.reduceMul, Nat.reduceSub, Int.reduceAdd, Int.reduceMul, Int.reduceSub, Int.reduceNeg, Int.reduceToNat]
  rw [zc_slots rfl, ← numb_none]
  refine loop_rule (fun m e t => ∃ i : Nat, m = ringN s - i ∧ i ≤ ringN s ∧ e.v 3 = .pointer (some ⟨σ.n + 1, 0, none⟩) ∧ e.v 15 = .int .i64 (ringN s) ∧ e.v 16 = .int .i64 i ∧ e.d = [] ∧
    t.m σ.n = some (.raw (.cells (flat fSl (numb (ringN s) i)).toArray 151 (0, 0))) ∧ t.m (σ.n + 1) = some (.raw (.cells #[.slice (some ⟨σ.n, 0, none⟩) (ringN s) (ringN s), .int .i64 0, .int .i64 0, .int .i64 0] 149 (0, 0))) ∧
    t.n = σ.n + 2 ∧ (∀ c, c < σ.n → t.m c = σ.m c)) (ringN s) ?_ ?_
  · refine ⟨0, by omega, by omega, ?_⟩
    simp -implicitDefEqProofs (disch := first | omega | (simp only [St.set_n, St.up_n, List.length_cons, List.length_nil]; omega)) only [go_sem, Nat.reduceAdd, Nat.reduceMul, Nat.reduceSub, Int.reduceAdd, Int.reduceMul, Int.reduceSub, Int.reduceNeg, Int.reduceToNat]
    simp
    exact fun c hc => by simp -implicitDefEqProofs (disch := first | omega | (simp only [St.set_n, St.up_n, List.length_cons, List.length_nil]; omega)) only [go_sem, Nat.reduceAdd, Nat.reduceMul, Nat.reduceSub, Int.reduceAdd, Int.reduceMul, Int.reduceSub, Int.reduceNeg, Int.reduceToNat]
  · rintro m e t hwt ⟨i, hm, hi, h3, h15, h16, hd, hb, hr, hn, hσ⟩
    simp -implicitDefEqProofs (disch := first | omega | (simp only [St.set_n, St.up_n, List.length_cons, List.length_nil]; omega)) only [go_sem, Nat.reduceAdd, Nat.reduceMul, Nat.reduceSub, Int.reduceAdd, Int.reduceMul, Int.reduceSub, Int.reduceNeg, Int.reduceToNat, h3, h15, h16]
    by_cases hlt : (i : Int) < ringN s
    · have hin : i < ringN s := by omega
      have e1 := slot_seq (numb_get hin) (2 * (i : Int))
      rw [numb_set hin] at e1
      have hl : (flat fSl (numb (ringN s) i)).length = ringN s * 4 := by rw [flat_length fSl_len]; simp [numb]
      simp -implicitDefEqProofs (disch := first | omega | (simp only [St.set_n, St.up_n, List.length_cons, List.length_nil]; omega)) only [go_sem, Nat.reduceAdd, Nat.reduceMul, Nat.reduceSub, Int.reduceAdd, Int.reduceMul, Int.reduceSub, Int.reduceNeg, Int.reduceToNat, h3, h15, h16, hlt, hr, hb, hl, e1]
      refine ⟨ringN s - (i + 1), by omega, i + 1, rfl, by omega, ?_⟩
      simp -implicitDefEqProofs (disch := first | omega | (simp only [St.set_n, St.up_n, List.length_cons, List.length_nil]; omega)) only [go_sem, Nat.reduceAdd, Nat.reduceMul, Nat.reduceSub, Int.reduceAdd, Int.reduceMul, Int.reduceSub, Int.reduceNeg, Int.reduceToNat, h3, h15, h16, hd, hr, hn]
      simp only [Int.natCast_add, Int.cast_ofNat_Int, true_and]
      intro c hc
      have := hσ c hc
      simp -implicitDefEqProofs (disch := first | omega | (simp only [St.set_n, St.up_n, List.length_cons, List.length_nil]; omega)) only [go_sem, Nat.reduceAdd, Nat.reduceMul, Nat.reduceSub, Int.reduceAdd, Int.reduceMul, Int.reduceSub, Int.reduceNeg, Int.reduceToNat, this]
    · simp -implicitDefEqProofs (disch := first | omega | (simp only [St.set_n, St.up_n, List.length_cons, List.length_nil]; omega)) only [go_sem, Nat.reduceAdd, Nat.reduceMul, Nat.reduceSub, Int.reduceAdd, Int.reduceMul, Int.reduceSub, Int.reduceNeg, Int.reduceToNat, h3, h15, h16, hlt, hd]
      have : i = ringN s := by omega
      subst this
      rw [numb_all] at hb
      exact hK _ ⟨by omega, hN1, hN2, by simp, by omega, by simpa using hr, hb⟩ hn hσ
end
end Go.Proofs.YtdbgeahmhfocaaaGreat

/- The core's world: locks, queues, and what is logged. -/
namespace Go.Proofs.YtdbgeahmhfocaaaGreat
set_option linter.unusedSimpArgs false
set_option linter.unusedVariables false
set_option maxRecDepth 100000
open Go Go.RowKit
structure RgS where
  L : List Mg
  G : Nat
  D : Int
structure CU where
  l : Nat → Lk
  log : LS
  rg : Nat → RgS
inductive CA where
  | bg (op : COp)
  | lk (i : Int)
  | fr (i : Int)
  | po (i j : Nat) (d : Bool)
  | fe (i : Int) (j : Nat) (a : CAn)
  | an (j : Nat)
def anE (e : Int) : CAn := ⟨e, 0, 0, ⟨#[]⟩, ⟨#[]⟩, false⟩
def pollA (R : RgS) : CAn := if R.L.length = 0 then anE 7 else ⟨0, 0, 0, (R.L.getD 0 m0).topic, (R.L.getD 0 m0).pay, (R.L.getD 0 m0).kept⟩
def pollR (R : RgS) : RgS := ⟨R.L.tail, if R.L.length = 0 then R.G else R.G + 1, R.D⟩
def dropA (R : RgS) : CAn := ⟨0, R.D, 0, ⟨#[]⟩, ⟨#[]⟩, false⟩
def ansC (R : RgS) (d : Bool) : CAn := if d then dropA R else pollA R
def rgC (R : RgS) (d : Bool) : RgS := if d then R else pollR R
def LS.fin (S : LS) (j : Nat) (a : CAn) : LS := match S.l[j]? with
  | some c => ⟨S.l.set j { c with an := a, to := S.now + 1 }, S.now + 1⟩
  | none => S
def CU.try (u : CU) (uo i : Int) : CU := if 0 ≤ i ∧ i < (12 : Nat) then { u with l := updL u.l i.toNat (tryT (u.l i.toNat) uo) } else u
def CU.free (u : CU) (uo i : Int) : CU := if 0 ≤ i ∧ i < (12 : Nat) then { u with l := updL u.l i.toNat (freeT (u.l i.toNat) uo) } else u
def CU.fin (u : CU) (j : Nat) (a : CAn) : CU := { u with log := u.log.fin j a }
def CU.po (u : CU) (i : Nat) (d : Bool) : CU := { u with rg := updL u.rg i (rgC (u.rg i) d) }
/-- What an operation does. -/
def aft (nr : Nat) (op : COp) (j : Nat) : List CA := if 1 ≤ op.sub ∧ op.sub ≤ nr then [.lk (3 + op.sub), .po (op.sub - 1).toNat j (op.kind == 5)] else [.an j]
def exC (nr : Nat) (t : Nat) (u : CU) : CA → CU × List CA × Bool
  | .bg op => ({ u with log := u.log.begin t op }, aft nr op u.log.l.length, true)
  | .lk i => (u.try ((t : Int) + 1) i, [], decide (0 ≤ i ∧ i < (12 : Nat)) && tryB (u.l i.toNat).1 ((t : Int) + 1))
  | .fr i => (u.free ((t : Int) + 1) i, [], true)
  | .po i j d => (u.po i d, [.fe (4 + (i : Int)) j (ansC (u.rg i) d)], true)
  | .fe i j a => ((u.free ((t : Int) + 1) i).fin j a, [], true)
  | .an j => (u.fin j (anE 4), [], true)
structure LogOk (S : LS) : Prop where
  now : S.now ≤ 1000000
  len : S.l.length ≤ 100000
structure EndOk (S : LS) (j : Nat) : Prop where
  ok : LogOk S
  c : ∃ c, S.l[j]? = some c ∧ c.to = 0
structure RgOk (rn : Nat) (R : RgS) : Prop where
  len : R.L.length ≤ rn
  g : R.G ≤ 1000000
def preC (rn : Nat) (_ : Nat) (u : CU) : CA → Prop
  | .bg _ => LogOk u.log
  | .lk _ => True
  | .fr _ => True
  | .po i j _ => RgOk rn (u.rg i) ∧ EndOk u.log j
  | .fe _ j _ => EndOk u.log j
  | .an j => EndOk u.log j
structure YB where
  c : Nat
  g : Nat
  b : Nat
  lp : Nat
structure YW (q : YB) (nr rn : Nat) (rr rb : Nat → Nat) (H : CU → HF) : Prop where
  n8 : nr ≤ 8
  rn1 : 1 ≤ rn
  rn2 : rn ≤ 1024
  core : ∃ v0 v1 v3 v4 v5 v6 v7 v9 A cap, (∀ u, H u q.c = some (.raw (.cells #[v0, v1, .pointer (some ⟨q.g, 0, none⟩), v3, v4, v5, v6, v7, .slice A nr cap, v9] 87 (0, 0)))) ∧
    (nr ≠ 0 → ∃ rk cs ty, A = some ⟨rk, 0, none⟩ ∧ (∀ u, H u rk = some (.raw (.cells cs ty (0, 0)))) ∧ ∀ i, i < nr → cs[i]? = some (.pointer (some ⟨rr i, 0, none⟩)))
  gr : ∀ u, H u q.g = some (.raw (.cells #[.slice (some ⟨q.b, 0, none⟩) (12 : Nat) (12 : Nat)] 138 (0, 0)))
  lk : ∀ u, H u q.b = some (.raw (.cells (flat fLk (lksA 12 u.l)).toArray 168 (0, 0)))
  lf : ∀ (u : CU) l c, c ≠ q.b → H { u with l := l } c = H u c
  log : ∀ u, H u q.lp = some (.comp (LogR u.log q.lp))
  logf : ∀ (u : CU) x c, c ≠ q.lp → H { u with log := x } c = H u c
  rs : ∀ u i, i < nr → H u (rr i) = some (.raw (.cells #[.slice (some ⟨rb i, 0, none⟩) rn rn, .int .i64 ((u.rg i).G + (u.rg i).L.length : Nat), .int .i64 (u.rg i).G, .int .i64 (u.rg i).D] 149 (0, 0)))
  rw : ∀ u i, i < nr → H u (rb i) = some (.raw (.cells (flat fSl (slots (u.rg i).L (u.rg i).G rn)).toArray 151 (0, 0)))
  rf : ∀ (u : CU) i x c, i < nr → c ≠ rr i → c ≠ rb i → H { u with rg := updL u.rg i x } c = H u c
  rne : ∀ i, i < nr → rr i ≠ rb i
section
variable {B : World} {q : YB} {nr rn : Nat} {rr rb : Nat → Nat} {H : CU → HF} {K : Value → St → Prop} {G : Nat → Prop} {h : HF} {s : St}
abbrev cL (nr rn : Nat) (H : CU → HF) : Lg B := hLg CU CA (exC nr) (preC rn) H
def yLk (hw : YW q nr rn rr rb H) : LkW CU H q.b 12 where
  get := fun u => u.l
  set := fun u l => { u with l := l }
  hb := hw.lk
  hs := hw.lf
  gs := fun u l => rfl
theorem updL_eq {α : Type} {f : Nat → α} {t : Nat} {v : α} : updL f t v t = v := by unfold updL; rw [if_pos rfl]
theorem updL_ne {α : Type} {f : Nat → α} {t j : Nat} {v : α} (h : j ≠ t) : updL f t v j = f j := by unfold updL; rw [if_neg h]
/-- A change of the log alone. -/
theorem log_aft (hw : YW q nr rn rr rb H) {u : CU} {S' : LS} {v : Value} {k : Nat} (he : Env (cL (B := B) nr rn H) h G u s) (hk : s.n ≤ k) :
    Aft (cL (B := B) nr rn H) (fun _ h' => h' = h) G { u with log := S' } s v ((s.set q.lp (.comp (LogR S' q.lp))).up k) :=
  Aft.one he (by rw [hw.log]; simp) hk (hw.log { u with log := S' }) fun c hc => hw.logf u S' c hc
theorem begin_ok (hw : YW q nr rn rr rb H) (t : Nat) (op : COp) : OpOk (cL (B := B) nr rn H) (fun u => LogOk u.log) 37 #[.pointer (some ⟨q.lp, 0, none⟩), .int .i64 t, .agg (fOp op).toArray] (fun u r => r = .int .i64 ((u.log.l.length : Int) + 1)) (fun u => { u with log := u.log.begin t op }) h := by
  intro G (u : CU) s he hp
  exact log_begin (he.at (hw.log u)).1 hp.now hp.len fun k hk => ⟨rfl, log_aft hw he hk⟩
theorem end_ok (hw : YW q nr rn rr rb H) (j : Nat) (a : CAn) : OpOk (cL (B := B) nr rn H) (fun u => EndOk u.log j) 34 #[.pointer (some ⟨q.lp, 0, none⟩), .int .i64 ((j : Int) + 1), .agg (fAn a).toArray] (fun _ r => r = .bool true) (fun u => u.fin j a) h := by
  intro G (u : CU) s he hp
  obtain ⟨⟨h1, h2⟩, c, hc, hto⟩ := hp
  refine log_end (he.at (hw.log u)).1 h1 h2 rfl hc hto fun k hk => ⟨rfl, ?_⟩
  have e : u.fin j a = { u with log := ⟨u.log.l.set j { c with an := a, to := u.log.now + 1 }, u.log.now + 1⟩ } := by
    unfold CU.fin LS.fin; rw [hc]
  show Aft (cL (B := B) nr rn H) _ _ (u.fin j a) _ _ _
  rw [e]
  exact log_aft hw he hk
theorem ring_is (hw : YW q nr rn rr rb H) {u : CU} (he : Env (cL (B := B) nr rn H) h G u s) {i : Nat} (hi : i < nr) (ho : RgOk rn (u.rg i)) : IsRing s (rr i) (rb i) rn (u.rg i).L (u.rg i).G (u.rg i).D :=
  ⟨hw.rne i hi, hw.rn1, hw.rn2, ho.len, by have := ho.g; omega, (he.at (hw.rs u i hi)).1, (he.at (hw.rw u i hi)).1⟩
theorem ring_aft (hw : YW q nr rn rr rb H) {u : CU} {v : Value} {s' : St} {i : Nat} {R' : RgS} (he : Env (cL (B := B) nr rn H) h G u s) (hi : i < nr) (hn : s.n ≤ s'.n)
    (h1 : s'.m (rr i) = some (.raw (.cells #[.slice (some ⟨rb i, 0, none⟩) rn rn, .int .i64 (R'.G + R'.L.length : Nat), .int .i64 R'.G, .int .i64 R'.D] 149 (0, 0)))) (h2 : s'.m (rb i) = some (.raw (.cells (flat fSl (slots R'.L R'.G rn)).toArray 151 (0, 0))))
    (hk : ∀ c y, c ≠ rr i → c ≠ rb i → s.m c = some y → s'.m c = some y) : Aft (cL (B := B) nr rn H) (fun _ h' => h' = h) G { u with rg := updL u.rg i R' } s v s' := by
  refine Aft.world he hn (fun c y hn hx => ?_) fun c y hy => ?_
  · refine hk c y (fun e => ?_) (fun e => ?_) hx
    · rw [e, hw.rs u i hi] at hn; cases hn
    · rw [e, hw.rw u i hi] at hn; cases hn
  · by_cases e1 : c = rr i
    · subst e1
      rw [hw.rs _ i hi] at hy
      simp only [updL_eq] at hy
      cases hy
      exact ⟨h1, by rw [hw.rs u i hi]; simp⟩
    · by_cases e2 : c = rb i
      · subst e2
        rw [hw.rw _ i hi] at hy
        simp only [updL_eq] at hy
        cases hy
        exact ⟨h2, by rw [hw.rw u i hi]; simp⟩
      · rw [hw.rf u i R' c hi e1 e2] at hy
        exact ⟨hk c y e1 e2 (he.at hy).1, by rw [hy]; simp⟩
/-- 'do': what is done with a queue. -/
theorem poll_ok (hw : YW q nr rn rr rb H) {i : Nat} (hi : i < nr) : OpOk (cL (B := B) nr rn H) (fun u => RgOk rn (u.rg i)) 56 #[.pointer (some ⟨rr i, 0, none⟩)] (fun u r => r = .agg (fAn (ansC (u.rg i) false)).toArray) (fun u => u.po i false) h := by
  intro G (u : CU) s he hp
  have hr := ring_is hw he hi hp
  have hlow := hp.g
  have hrn := hw.rn2
  have hR0 := (he.at (hw.rs u i hi)).1
  have hR1 := (he.at (hw.rw u i hi)).1
  refine Fn.of is56 (by simp) fun hwf => ?_
  have hB := hwf.1
  have n0 := (hwf.2 _ _ hR0).2
  have n1 := (hwf.2 _ _ hR1).2
  simp only [b56, Tryz.f56, Option.getD_some]
  simp -implicitDefEqProofs (disch := first | omega | (simp only [St.set_n, St.up_n, List.length_cons, List.length_nil]; omega)) only [go_sem, Nat.reduceAdd, Nat.reduceMul, Nat.reduceSub, Int.reduceAdd, Int.reduceMul, Int.reduceSub, Int.reduceNeg, Int.reduceToNat]
  have hr1 : IsRing ((s.set s.n (.raw (.cells #[.int .i64 0, .int .i64 0, .int .i64 0, .string ⟨#[]⟩, .string ⟨#[]⟩, .bool false] 64 (0, 0)))).up (s.n + 1)) (rr i) (rb i) rn (u.rg i).L (u.rg i).G (u.rg i).D := ⟨hr.ne, hr.pos, hr.big, hr.full, hr.low, by simp -implicitDefEqProofs (disch := first | omega | (simp only [St.set_n, St.up_n, List.length_cons, List.length_nil]; omega)) only [go_sem, Nat.reduceAdd, Nat.reduceMul, Nat.reduceSub, Int.reduceAdd, Int.reduceMul, Int.reduceSub, Int.reduceNeg, Int.reduceToNat, hR0], by simp -implicitDefEqProofs (disch := first | omega | (simp only [St.set_n, St.up_n, List.length_cons, List.length_nil]; omega)) only [go_sem, Nat.reduceAdd, Nat.reduceMul, Nat.reduceSub, Int.reduceAdd, Int.reduceMul, Int.reduceSub, Int.reduceNeg, Int.reduceToNat, hR1]⟩
  refine callF_wf (ring_get hr1 (by omega) fun τ hτ hnτ hkτ hwτ => ?_)
  simp only [St.up_n] at hnτ
  have ha : τ.m s.n = some (.raw (.cells #[.int .i64 0, .int .i64 0, .int .i64 0, .string ⟨#[]⟩, .string ⟨#[]⟩, .bool false] 64 (0, 0))) := hkτ _ _ (by omega) (by omega) (by simp -implicitDefEqProofs (disch := first | omega | (simp only [St.set_n, St.up_n, List.length_cons, List.length_nil]; omega)) only [go_sem, Nat.reduceAdd, Nat.reduceMul, Nat.reduceSub, Int.reduceAdd, Int.reduceMul, Int.reduceSub, Int.reduceNeg, Int.reduceToNat])
  have hk : ∀ c y, c ≠ rr i → c ≠ rb i → s.m c = some y → τ.m c = some y := fun c y h1 h2 hx => hkτ c y h1 h2 (by have := (hwf.2 _ _ hx).2; simp -implicitDefEqProofs (disch := first | omega | (simp only [St.set_n, St.up_n, List.length_cons, List.length_nil]; omega)) only [go_sem, Nat.reduceAdd, Nat.reduceMul, Nat.reduceSub, Int.reduceAdd, Int.reduceMul, Int.reduceSub, Int.reduceNeg, Int.reduceToNat, hx])
  have t0 := hτ.root
  have t1 := hτ.row
  have m0' := (hwτ.2 _ _ t0).2
  have m1' := (hwτ.2 _ _ t1).2
  have z0 : rr i ≠ s.n := by omega
  have z1 : rb i ≠ s.n := by omega
  have e : (u.po i false) = { u with rg := updL u.rg i (pollR (u.rg i)) } := rfl
  by_cases hL : (u.rg i).L.length = 0
  · simp -implicitDefEqProofs (disch := first | omega | (simp only [St.set_n, St.up_n, List.length_cons, List.length_nil]; omega)) only [go_sem, Nat.reduceAdd, Nat.reduceMul, Nat.reduceSub, Int.reduceAdd, Int.reduceMul, Int.reduceSub, Int.reduceNeg, Int.reduceToNat, hL, fM, ha]
    refine ⟨by simp [ansC, pollA, hL, fAn, anE], ?_⟩
    rw [e]
    refine ring_aft hw he hi (by simp only [St.up_n, St.set_n]; omega) ?_ ?_ fun c y h1 h2 hx => ?_
    · have := t0
      simp only [hL, if_true] at this
      unfold pollR
      simp only [hL, if_true]
      simp -implicitDefEqProofs (disch := first | omega | (simp only [St.set_n, St.up_n, List.length_cons, List.length_nil]; omega)) only [go_sem, Nat.reduceAdd, Nat.reduceMul, Nat.reduceSub, Int.reduceAdd, Int.reduceMul, Int.reduceSub, Int.reduceNeg, Int.reduceToNat, this]
    · have := t1
      simp only [hL, if_true] at this
      unfold pollR
      simp only [hL, if_true]
      simp -implicitDefEqProofs (disch := first | omega | (simp only [St.set_n, St.up_n, List.length_cons, List.length_nil]; omega)) only [go_sem, Nat.reduceAdd, Nat.reduceMul, Nat.reduceSub, Int.reduceAdd, Int.reduceMul, Int.reduceSub, Int.reduceNeg, Int.reduceToNat, this]
    · have h3 := hk c y h1 h2 hx
      have := (hwf.2 _ _ hx).2
      simp -implicitDefEqProofs (disch := first | omega | (simp only [St.set_n, St.up_n, List.length_cons, List.length_nil]; omega)) only [go_sem, Nat.reduceAdd, Nat.reduceMul, Nat.reduceSub, Int.reduceAdd, Int.reduceMul, Int.reduceSub, Int.reduceNeg, Int.reduceToNat, h3]
  · simp -implicitDefEqProofs (disch := first | omega | (simp only [St.set_n, St.up_n, List.length_cons, List.length_nil]; omega)) only [go_sem, Nat.reduceAdd, Nat.reduceMul, Nat.reduceSub, Int.reduceAdd, Int.reduceMul, Int.reduceSub, Int.reduceNeg, Int.reduceToNat, hL, fM, ha]
    refine ⟨by simp [ansC, pollA, hL, fAn], ?_⟩
    rw [e]
    refine ring_aft hw he hi (by simp only [St.up_n, St.set_n]; omega) ?_ ?_ fun c y h1 h2 hx => ?_
    · have := t0
      simp only [hL, if_false] at this
      unfold pollR
      simp only [hL, if_false]
      simp -implicitDefEqProofs (disch := first | omega | (simp only [St.set_n, St.up_n, List.length_cons, List.length_nil]; omega)) only [go_sem, Nat.reduceAdd, Nat.reduceMul, Nat.reduceSub, Int.reduceAdd, Int.reduceMul, Int.reduceSub, Int.reduceNeg, Int.reduceToNat, this]
    · have := t1
      simp only [hL, if_false] at this
      unfold pollR
      simp only [hL, if_false]
      simp -implicitDefEqProofs (disch := first | omega | (simp only [St.set_n, St.up_n, List.length_cons, List.length_nil]; omega)) only [go_sem, Nat.reduceAdd, Nat.reduceMul, Nat.reduceSub, Int.reduceAdd, Int.reduceMul, Int.reduceSub, Int.reduceNeg, Int.reduceToNat, this]
    · have h3 := hk c y h1 h2 hx
      have := (hwf.2 _ _ hx).2
      have := (hwτ.2 _ _ h3).2
      simp -implicitDefEqProofs (disch := first | omega | (simp only [St.set_n, St.up_n, List.length_cons, List.length_nil]; omega)) only [go_sem, Nat.reduceAdd, Nat.reduceMul, Nat.reduceSub, Int.reduceAdd, Int.reduceMul, Int.reduceSub, Int.reduceNeg, Int.reduceToNat, h3]
theorem drop_ok (hw : YW q nr rn rr rb H) {i : Nat} (hi : i < nr) : OpOk (cL (B := B) nr rn H) (fun u => RgOk rn (u.rg i)) 58 #[.pointer (some ⟨rr i, 0, none⟩)] (fun u r => r = .agg (fAn (ansC (u.rg i) true)).toArray) (fun u => u.po i true) h := by
  intro G (u : CU) s he hp
  have hr := ring_is hw he hi hp
  have hR0 := (he.at (hw.rs u i hi)).1
  have hR1 := (he.at (hw.rw u i hi)).1
  refine Fn.of is58 (by simp) fun hwf => ?_
  have hB := hwf.1
  have n0 := (hwf.2 _ _ hR0).2
  have n1 := (hwf.2 _ _ hR1).2
  simp only [b58, Tryz.f58, Option.getD_some]
  simp -implicitDefEqProofs (disch := first | omega | (simp only [St.set_n, St.up_n, List.length_cons, List.length_nil]; omega)) only [go_sem, Nat.reduceAdd, Nat.reduceMul, Nat.reduceSub, Int.reduceAdd, Int.reduceMul, Int.reduceSub, Int.reduceNeg, Int.reduceToNat]
  have hr1 : IsRing ((s.set s.n (.raw (.cells #[.int .i64 0, .int .i64 0, .int .i64 0, .string ⟨#[]⟩, .string ⟨#[]⟩, .bool false] 64 (0, 0)))).up (s.n + 1)) (rr i) (rb i) rn (u.rg i).L (u.rg i).G (u.rg i).D := ⟨hr.ne, hr.pos, hr.big, hr.full, hr.low, by simp -implicitDefEqProofs (disch := first | omega | (simp only [St.set_n, St.up_n, List.length_cons, List.length_nil]; omega)) only [go_sem, Nat.reduceAdd, Nat.reduceMul, Nat.reduceSub, Int.reduceAdd, Int.reduceMul, Int.reduceSub, Int.reduceNeg, Int.reduceToNat, hR0], by simp -implicitDefEqProofs (disch := first | omega | (simp only [St.set_n, St.up_n, List.length_cons, List.length_nil]; omega)) only [go_sem, Nat.reduceAdd, Nat.reduceMul, Nat.reduceSub, Int.reduceAdd, Int.reduceMul, Int.reduceSub, Int.reduceNeg, Int.reduceToNat, hR1]⟩
  refine callF_of (ring_drops hr1 ?_)
  simp -implicitDefEqProofs (disch := first | omega | (simp only [St.set_n, St.up_n, List.length_cons, List.length_nil]; omega)) only [go_sem, Nat.reduceAdd, Nat.reduceMul, Nat.reduceSub, Int.reduceAdd, Int.reduceMul, Int.reduceSub, Int.reduceNeg, Int.reduceToNat]
  refine ⟨by simp [ansC, dropA, fAn], ?_⟩
  have e : (u.po i true) = u := by
    unfold CU.po rgC
    have : updL u.rg i (u.rg i) = u.rg := by
      funext j
      unfold updL
      split
      · rename_i e; subst e; rfl
      · rfl
    simp only [if_true, this]
  rw [e]
  refine Aft.world he (by simp only [St.up_n, St.set_n]; omega) (fun c y _ hx => by have := (hwf.2 _ _ hx).2; simp -implicitDefEqProofs (disch := first | omega | (simp only [St.set_n, St.up_n, List.length_cons, List.length_nil]; omega)) only [go_sem, Nat.reduceAdd, Nat.reduceMul, Nat.reduceSub, Int.reduceAdd, Int.reduceMul, Int.reduceSub, Int.reduceNeg, Int.reduceToNat, hx]) fun c y hy => ?_
  have h1 := (he.at hy).1
  have := (hwf.2 _ _ h1).2
  exact ⟨by simp -implicitDefEqProofs (disch := first | omega | (simp only [St.set_n, St.up_n, List.length_cons, List.length_nil]; omega)) only [go_sem, Nat.reduceAdd, Nat.reduceMul, Nat.reduceSub, Int.reduceAdd, Int.reduceMul, Int.reduceSub, Int.reduceNeg, Int.reduceToNat, h1], by rw [hy]; simp⟩
end
end Go.Proofs.YtdbgeahmhfocaaaGreat

/- The core's closures: contracts, by walks. -/
namespace Go.Proofs.YtdbgeahmhfocaaaGreat
set_option linter.unusedSimpArgs false
set_option linter.unusedVariables false
set_option maxRecDepth 100000
open Go Go.RowKit
section
variable {B : World} {q : YB} {nr rn : Nat} {rr rb : Nat → Nat} {H : CU → HF} {K : Value → St → Prop} {G : Nat → Prop} {h : HF} {s : St} {t n : Nat}
/-- What comes next, behind an answer. -/
def NxN (L : Lg B) (t n : Nat) (P : CAn → L.U → Prop) (ψ : CAn → L.U → L.U × List L.A) (nv : Value) (h : HF) : Prop :=
  ∃ f c1 c2, nv = .func (.func f) c1 c2 ∧ ∀ a G u s, Env L h G u s → P a u → Fn Tryz.prog B f (c1 ++ #[.agg (fAn a).toArray] ++ c2) s fun v' s' => Aft L (Rep L t n (ψ a u).2) G (ψ a u).1 s v' s'
theorem NxN.more {L : Lg B} {P : CAn → L.U → Prop} {ψ : CAn → L.U → L.U × List L.A} {nv : Value} {h2 : HF} (hn : NxN L t n P ψ nv h) (hs : ∀ c y, h c = some y → h2 c = some y) : NxN L t n P ψ nv h2 := by
  obtain ⟨f, c1, c2, hv, hc⟩ := hn
  exact ⟨f, c1, c2, hv, fun a G u s he hp => hc a _ u s (he.less hs) hp⟩
theorem NxN.one {L : Lg B} {P : CAn → L.U → Prop} {ψ : CAn → L.U → L.U × List L.A} {nv : Value} (hn : NxN L t n P ψ nv h) : vc nv = #[nv] ∧ nv.oneCell' = true := by
  obtain ⟨_, _, _, rfl, _⟩ := hn; exact ⟨rfl, rfl⟩
theorem hand_of {L : Lg B} {P : CAn → L.U → Prop} {ψ : CAn → L.U → L.U × List L.A} {nv : Value} {a : CAn} {u : L.U} (hn : NxN L t n P ψ nv h) (he : Env L h G u s) (hp : P a u) (hK : ∀ v' s', Aft L (Rep L t n (ψ a u).2) G (ψ a u).1 s v' s' → s'.wf B → K v' s') :
    Fn Tryz.prog B 84 #[.agg (fAn a).toArray, nv] s K := by
  obtain ⟨f, c1, c2, rfl, hc⟩ := hn
  refine Fn.of is84 (by simp) fun hwf => ?_
  simp only [b84, Tryz.f84, Option.getD_some]
  simp -implicitDefEqProofs (disch := first | omega | (simp only [St.set_n, St.up_n, List.length_cons, List.length_nil]; omega)) only [go_sem, Nat.reduceAdd, Nat.reduceMul, Nat.reduceSub, Int.reduceAdd, Int.reduceMul, Int.reduceSub, Int.reduceNeg, Int.reduceToNat, fAn]
  have hk : ∀ c, c < s.n → ((s.set s.n (.raw (.cells (fAn a).toArray 64 (0, 0)))).up (s.n + 1)).m c = s.m c := fun c hc => by simp -implicitDefEqProofs (disch := first | omega | (simp only [St.set_n, St.up_n, List.length_cons, List.length_nil]; omega)) only [go_sem, Nat.reduceAdd, Nat.reduceMul, Nat.reduceSub, Int.reduceAdd, Int.reduceMul, Int.reduceSub, Int.reduceNeg, Int.reduceToNat]
  have hn1 : s.n ≤ ((s.set s.n (.raw (.cells (fAn a).toArray 64 (0, 0)))).up (s.n + 1)).n := by simp only [St.up_n]; omega
  have hw1 := set_wf1 (y := .raw (.cells (fAn a).toArray 64 (0, 0))) hwf
  have he1 : Env L h G u ((s.set s.n (.raw (.cells (fAn a).toArray 64 (0, 0)))).up (s.n + 1)) := (he.grow hk hn1 hw1).less he.gsub
  refine callF_wf ((hc a G u _ he1 hp).mono fun v' s' ha hw => ?_)
  simp -implicitDefEqProofs (disch := first | omega | (simp only [St.set_n, St.up_n, List.length_cons, List.length_nil]; omega)) only [go_sem, Nat.reduceAdd, Nat.reduceMul, Nat.reduceSub, Int.reduceAdd, Int.reduceMul, Int.reduceSub, Int.reduceNeg, Int.reduceToNat]
  exact hK _ _ (Aft.since he hk hn1 ha) hw
theorem answer1_ok {L : Lg B} {P : CAn → L.U → Prop} {Q : L.U → Prop} {ψ : CAn → L.U → L.U × List L.A} {nv : Value} {a : CAn} {b1 b2 : Nat} (h1 : h b1 = some (.raw (.cells (fAn a).toArray 64 (0, 0)))) (h2 : h b2 = some (.raw (.cells #[nv] 65 (0, 0)))) (hn : NxN L t n P ψ nv h) (hq : ∀ u, Q u → P a u) :
    NxOk L Q t n (ψ a) (.func (.func 96) #[] #[.pointer (some ⟨b1, 0, none⟩), .pointer (some ⟨b2, 0, none⟩)]) h := by
  refine .inr ⟨_, _, _, rfl, fun G u s he hp => ?_⟩
  have m1 := he.sub _ _ h1
  have m2 := he.sub _ _ h2
  refine Fn.of is96 (by simp) fun hwf => ?_
  simp only [b96, Tryz.f96, Option.getD_some]
  simp only [fAn] at m1
  simp -implicitDefEqProofs (disch := first | omega | (simp only [St.set_n, St.up_n, List.length_cons, List.length_nil]; omega)) only [go_sem, Nat.reduceAdd, Nat.reduceMul, Nat.reduceSub, Int.reduceAdd, Int.reduceMul, Int.reduceSub, Int.reduceNeg, Int.reduceToNat, m1, m2]
  refine callF_of (hand_of (a := a) hn he (hq u hp) fun v' s' ha hw => ?_)
  simp -implicitDefEqProofs (disch := first | omega | (simp only [St.set_n, St.up_n, List.length_cons, List.length_nil]; omega)) only [go_sem, Nat.reduceAdd, Nat.reduceMul, Nat.reduceSub, Int.reduceAdd, Int.reduceMul, Int.reduceSub, Int.reduceNeg, Int.reduceToNat]
  exact ha
theorem w121_ok {L : Lg B} {P : CAn → L.U → Prop} {Q : L.U → Prop} {ψ : CAn → L.U → L.U × List L.A} {nv : Value} {a : CAn} {b1 b2 : Nat} (h1 : h b1 = some (.raw (.cells (fAn a).toArray 64 (0, 0)))) (h2 : h b2 = some (.raw (.cells #[nv] 65 (0, 0)))) (hn : NxN L t n P ψ nv h) (hq : ∀ u, Q u → P a u) :
    NxOk L Q t n (ψ a) (.func (.func 83) #[] #[.pointer (some ⟨b1, 0, none⟩), .pointer (some ⟨b2, 0, none⟩)]) h := by
  refine .inr ⟨_, _, _, rfl, fun G u s he hp => ?_⟩
  have m1 := he.sub _ _ h1
  have m2 := he.sub _ _ h2
  refine Fn.of is83 (by simp) fun hwf => ?_
  simp only [b83, Tryz.f83, Option.getD_some]
  simp only [fAn] at m1
  simp -implicitDefEqProofs (disch := first | omega | (simp only [St.set_n, St.up_n, List.length_cons, List.length_nil]; omega)) only [go_sem, Nat.reduceAdd, Nat.reduceMul, Nat.reduceSub, Int.reduceAdd, Int.reduceMul, Int.reduceSub, Int.reduceNeg, Int.reduceToNat, m1, m2]
  refine callF_of (hand_of (a := a) hn he (hq u hp) fun v' s' ha hw => ?_)
  simp -implicitDefEqProofs (disch := first | omega | (simp only [St.set_n, St.up_n, List.length_cons, List.length_nil]; omega)) only [go_sem, Nat.reduceAdd, Nat.reduceMul, Nat.reduceSub, Int.reduceAdd, Int.reduceMul, Int.reduceSub, Int.reduceNeg, Int.reduceToNat]
  exact ha
/-- 'Answer': a step that hands an answer on. -/
theorem answer_of {L : Lg B} {P : CAn → L.U → Prop} {ψ : CAn → L.U → L.U × List L.A} {nv : Value} {a : CAn} {x : L.A} {r : List L.A} {u : L.U} (hn : NxN L t n P ψ nv h) (hq : ∀ u, L.pre t u x → P a u)
    (hex : ∀ u, L.pre t u x → (L.ex t u x).2.2 = true ∧ (L.ex t u x).1 = (ψ a u).1 ∧ (L.ex t u x).2.1 ++ r = (ψ a u).2) (he : Env L h G u s) (hK : ∀ v' s', Aft L (Rep L t (n + 1) (x :: r)) G u s v' s' → s'.wf B → K v' s') :
    Fn Tryz.prog B 76 #[.agg (fAn a).toArray, nv] s K := by
  refine Fn.of is76 (by simp) fun hwf => ?_
  simp only [b76, Tryz.f76, Option.getD_some]
  simp -implicitDefEqProofs (disch := first | omega | (simp only [St.set_n, St.up_n, List.length_cons, List.length_nil]; omega)) only [go_sem, Nat.reduceAdd, Nat.reduceMul, Nat.reduceSub, Int.reduceAdd, Int.reduceMul, Int.reduceSub, Int.reduceNeg, Int.reduceToNat, fAn, hn.one.1, hn.one.2]
  have key : ∀ s1, s1 = ((s.set s.n (.raw (.cells (fAn a).toArray 64 (0, 0)))).set (s.n + 1) (.raw (.cells #[nv] 65 (0, 0)))).up (s.n + 1 + 1) →
      (∀ c, c < s.n → s1.m c = s.m c) ∧ s1.wf B ∧ s.n ≤ s1.n ∧ s1.m s.n = some (.raw (.cells (fAn a).toArray 64 (0, 0))) ∧ s1.m (s.n + 1) = some (.raw (.cells #[nv] 65 (0, 0))) := by
    rintro s1 rfl
    have hw := set_wf1 (y := .raw (.cells #[nv] 65 (0, 0))) (set_wf1 (y := .raw (.cells (fAn a).toArray 64 (0, 0))) hwf)
    simp only [St.up_n] at hw
    exact ⟨fun c hc => by simp -implicitDefEqProofs (disch := first | omega | (simp only [St.set_n, St.up_n, List.length_cons, List.length_nil]; omega)) only [go_sem, Nat.reduceAdd, Nat.reduceMul, Nat.reduceSub, Int.reduceAdd, Int.reduceMul, Int.reduceSub, Int.reduceNeg, Int.reduceToNat], hw, by simp only [St.up_n]; omega, by simp -implicitDefEqProofs (disch := first | omega | (simp only [St.set_n, St.up_n, List.length_cons, List.length_nil]; omega)) only [go_sem, Nat.reduceAdd, Nat.reduceMul, Nat.reduceSub, Int.reduceAdd, Int.reduceMul, Int.reduceSub, Int.reduceNeg, Int.reduceToNat], by simp -implicitDefEqProofs (disch := first | omega | (simp only [St.set_n, St.up_n, List.length_cons, List.length_nil]; omega)) only [go_sem, Nat.reduceAdd, Nat.reduceMul, Nat.reduceSub, Int.reduceAdd, Int.reduceMul, Int.reduceSub, Int.reduceNeg, Int.reduceToNat]⟩
  obtain ⟨hk, hw, hn1, m1, m2⟩ := key _ rfl
  have e0 : (#[.int .i64 a.err, .int .i64 a.a, .int .i64 a.b, .string a.topic, .string a.pay, .bool a.kept] : Array Value) = (fAn a).toArray := rfl
  rw [e0]
  generalize ((s.set s.n (.raw (.cells (fAn a).toArray 64 (0, 0)))).set (s.n + 1) (.raw (.cells #[nv] 65 (0, 0)))).up (s.n + 1 + 1) = s1 at hk hw hn1 m1 m2 ⊢
  have he1 := he.grow hk hn1 hw
  refine callF_of (do_of (L := L) (t := t) (n := n) (a := x) (r := r) (φ := fun u => u) (η := fun _ => grow h s s1) (ψ := fun _ => ψ a) (.inl ⟨rfl, fun u => ⟨rfl, rfl⟩⟩) (fun _ _ h => h) ⟨rfl, rfl⟩ (fun u0 hp0 => answer1_ok (gro (Nat.le_refl _) m1) (gro (by omega) m2) (hn.more he.gsub) fun u1 e => e ▸ hq u0 hp0) hex he1 fun v' s' ha hw' => ?_)
  simp -implicitDefEqProofs (disch := first | omega | (simp only [St.set_n, St.up_n, List.length_cons, List.length_nil]; omega)) only [go_sem, Nat.reduceAdd, Nat.reduceMul, Nat.reduceSub, Int.reduceAdd, Int.reduceMul, Int.reduceSub, Int.reduceNeg, Int.reduceToNat]
  exact hK _ _ (Aft.since he hk hn1 ha) hw'
end
end Go.Proofs.YtdbgeahmhfocaaaGreat
