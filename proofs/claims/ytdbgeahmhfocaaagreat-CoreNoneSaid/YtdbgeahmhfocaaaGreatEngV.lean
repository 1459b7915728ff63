/- What is asked behind an operation, or a region, may be said in other words: a mid-condition, so that many orders end in one. -/
import Derived.Test.YtdbgeahmhfocaaaGreatEngU
namespace Go.Proofs.YtdbgeahmhfocaaaGreat
set_option linter.unusedSimpArgs false
set_option linter.unusedVariables false
open Go Go.RowKit

section
variable {P : Program} {B : World} {σ : St}

theorem bindK_mono {α : Type} {x : Option α} {K K' : α → Prop} (hk : ∀ v, K v → K' v) (h : bindK x K) : bindK x K' := let ⟨v, e, h⟩ := h; ⟨v, e, hk v h⟩
theorem NextR_mono {r : Result Next} {K K' : Value → St → Prop} (hk : ∀ v σ', K v σ' → K' v σ') (hh : NextR P B r K) : NextR P B r K' := by
  unfold NextR at hh ⊢
  split at hh <;> first | contradiction | skip
  · obtain ⟨s, a, b⟩ := hh; exact ⟨s, a, hk _ _ b⟩
  · obtain ⟨s, a, b⟩ := hh; exact ⟨s, a, hk _ _ b⟩
  · exact hh.mono fun _ _ ⟨v, s, a, b, d⟩ => ⟨v, s, a, b, hk _ _ d⟩
  · exact RoundIn.mono hh fun _ _ ⟨v, s, a, b, d⟩ => ⟨v, s, a, b, hk _ _ d⟩
theorem FnV_mono {g : Value} {args : Array Value} {K K' : Value → St → Prop} (hk : ∀ v σ', K v σ' → K' v σ') (h : FnV P B g args σ K) : FnV P B g args σ K' := by
  unfold FnV at h ⊢
  split at h <;> first | contradiction | skip
  · exact h.mono hk
  · obtain ⟨r, h1, h2, h3⟩ := h
    exact ⟨r, h1, h2, fun w hw => RoundIn.mono (h3 w hw) fun _ _ ⟨v, s, a, b, d⟩ => ⟨v, s, a, b, hk _ _ d⟩⟩
theorem mkS_mono {t : TypeId} {l c : Value} {K K' : Value → St → Prop} (hk : ∀ v σ', K v σ' → K' v σ') (h : mkS P t l c σ K) : mkS P t l c σ K' := by
  unfold mkS at h ⊢
  split at h <;> first | contradiction | skip
  exact ⟨h.1, bindK_mono (fun _ => hk _ _) h.2⟩
theorem bsl_mono {t : TypeId} {n : Nat} {parts : List (Nat × Value)} {K K' : Value → St → Prop} (hk : ∀ v σ', K v σ' → K' v σ') (h : bsl P t n parts σ K) : bsl P t n parts σ K' := by
  unfold bsl at h ⊢
  exact bindK_mono (fun _ => bindK_mono fun _ ⟨h1, h2⟩ => ⟨h1, bindK_mono (fun _ => hk _ _) h2⟩) h
theorem appS_mono {t xt : TypeId} {a x : Value} {K K' : Value → St → Prop} (hk : ∀ v σ', K v σ' → K' v σ') (h : appS P B σ t xt a x K) : appS P B σ t xt a x K' := by
  obtain ⟨base, len, cap, e, s, b, n, ys, z, h1, h2, h3, h4, h5, h6, h7, h8, h9, h10⟩ := h
  refine ⟨base, len, cap, e, s, b, n, ys, z, h1, h2, h3, h4, h5, h6, h7, h8, fun hm => ?_, fun hm => ?_⟩
  · obtain ⟨σ', q, k⟩ := h9 hm; exact ⟨σ', q, hk _ _ k⟩
  · obtain ⟨q, old, q2, k⟩ := h10 hm; exact ⟨q, old, q2, fun nc hnc => hk _ _ (k nc hnc)⟩
theorem effS_mono {p : Op} {ty : TypeId} {ρ : Operand → Value} {K K' : Value → St → Prop} (hk : ∀ v σ', K v σ' → K' v σ') (h : effS P B p ty ρ σ K) : effS P B p ty ρ σ K' := by
  unfold effS at h ⊢
  split at h
  · exact bindK_mono (fun _ => hk _ _) h
  · exact bindK_mono (fun _ => hk _ _) h
  · exact hk _ _ h
  · exact mkS_mono hk h
  · exact bsl_mono hk h
  · exact bindK_mono (fun _ => hk _ _) h
  · exact hk _ _ h
  · split at h
    · exact FnV_mono hk h
    · exact ⟨h.1, appS_mono hk h.2⟩
    · exact fun w hw => NextR_mono hk (h w hw)
  · exact fun w hw => NextR_mono hk (h w hw)
theorem opS_mono {o : Oper} {K K' : Fr → St → Prop} {e : Fr} (hk : ∀ e σ', K e σ' → K' e σ') (h : opS P B o K e σ) : opS P B o K' e σ := by
  unfold opS at h ⊢
  split at h
  · obtain ⟨v, q, k⟩ := h; exact ⟨v, q, hk _ _ k⟩
  · split at h
    · split at h <;> first | contradiction | skip
      obtain ⟨v, q, k⟩ := h; exact ⟨v, q, hk _ _ k⟩
    · exact effS_mono (fun _ _ => hk _ _) h
theorem runL_mono {ops : Array Oper} {K K' : Fr → St → Prop} (hk : ∀ e σ', K e σ' → K' e σ') : ∀ (l : List Oper) (e : Fr) (σ : St), runL P B ops l K e σ → runL P B ops l K' e σ
  | [], e, σ, h => hk _ _ h
  | o :: l, e, σ, h => ⟨fun hg => opS_mono (fun e' σ' => runL_mono hk l e' σ') (h.1 hg), fun hg => runL_mono hk l _ _ (h.2 hg)⟩
theorem upto_mono {c : Bool} {X X' : St → Prop} (hx : ∀ σ, X σ → X' σ) (h : upto c σ X) : upto c σ X' := by
  cases c with
  | true => exact fun m hm => hx _ (h m hm)
  | false => exact hx _ h
theorem atS_mono {ops : Array Oper} {X X' : Fr → St → Prop} (hx : ∀ e σ', X e σ' → X' e σ') {e : Fr} : ∀ (l : List Oper) (i : Nat), atS P B i ops l X e σ → atS P B i ops l X' e σ
  | [], _, h => (by simp [atS] at h)
  | o :: l, 0, h => ⟨fun hg => opS_mono hx (h.1 hg), fun hg => hx _ _ (h.2 hg)⟩
  | o :: l, i + 1, h => by
    have := atS_mono hx l i (by simpa [atS] using h)
    simpa [atS] using this
theorem AnyS_mono {ops : Array Oper} {K K' : Fr → St → Prop} (hk : ∀ e σ', K e σ' → K' e σ') {e : Fr} (h : AnyS P B ops K e σ) : AnyS P B ops K' e σ :=
  fun r n id Q a w hm hD hdst ha hw hn => h r n id Q a w hm hD hdst ha hw fun a' e' σ' w' h1 h2 h3 => hn a' e' σ' w' h1 h2 (hk _ _ h3)
theorem effD_mono {ops : Array Oper} {i : Nat} {o : Oper} {rest : List Oper} {K K' : Fr → St → Prop} (hk : ∀ e σ', K e σ' → K' e σ') {Z Z' : DC → Fr → St → Prop} (hz : ∀ c e σ', Z c e σ' → Z' c e σ') {c : DC} {e : Fr}
    (h : effD P B ops i o rest K Z c e σ) : effD P B ops i o rest K' Z' c e σ := by
  rcases h with ⟨h1, h2⟩ | ⟨h1, h2⟩ | ⟨h1, v, h2, h3⟩ | ⟨h1, h2⟩
  · exact .inl ⟨h1, upto_mono (fun σ => runL_mono hk _ _ σ) h2⟩
  · exact .inr (.inl ⟨h1, upto_mono (fun σ => opS_mono (fun e' σ' => hz _ e' σ')) h2⟩)
  · exact .inr (.inr (.inl ⟨h1, v, h2, hz _ _ _ h3⟩))
  · exact .inr (.inr (.inr ⟨h1, AnyS_mono hk h2⟩))
theorem runD_mono {ops : Array Oper} {K K' : Fr → St → Prop} (hk : ∀ e σ', K e σ' → K' e σ') : ∀ (l : List Oper) (i : Nat) (c : DC) (e : Fr) (σ : St), runD P B ops i l K c e σ → runD P B ops i l K' c e σ
  | [], i, c, e, σ, h => upto_mono (fun σ => hk e σ) h
  | o :: l, i, c, e, σ, h => by
    simp only [runD] at h ⊢
    refine ⟨fun hg => ?_, fun hg => runD_mono hk l (i + 1) c _ σ (h.2 hg)⟩
    have h1 := h.1 hg
    unfold opX at h1 ⊢
    split at h1
    · obtain ⟨v, hv, hr⟩ := h1
      exact ⟨v, hv, runD_mono hk l (i + 1) c _ σ hr⟩
    · exact effD_mono hk (fun c' e' σ' => runD_mono hk l (i + 1) c' e' σ') h1
/-- Behind a region that draws its order just 'J' is kept. -/
theorem effD_mid {ops : Array Oper} {i i' : Nat} {o : Oper} {rest : List Oper} {K : Fr → St → Prop} (J : Fr → St → Prop) {c : DC} {e : Fr} (h : effD P B ops i o rest J (runD P B ops i' rest J) c e σ) (hJ : ∀ e σ', J e σ' → K e σ') :
    effD P B ops i o rest K (runD P B ops i' rest K) c e σ := effD_mono hJ (fun c' e' σ' => runD_mono hJ rest i' c' e' σ') h
/-- Behind operations in the text's order just 'J' is kept. -/
theorem runL_mid {ops : Array Oper} {l : List Oper} {K : Fr → St → Prop} (J : Fr → St → Prop) {e : Fr} (h : runL P B ops l J e σ) (hJ : ∀ e σ', J e σ' → K e σ') : runL P B ops l K e σ := runL_mono hJ l e σ h
end
end Go.Proofs.YtdbgeahmhfocaaaGreat
