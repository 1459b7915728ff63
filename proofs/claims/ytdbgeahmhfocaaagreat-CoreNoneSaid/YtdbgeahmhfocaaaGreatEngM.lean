/- What is asked behind a piece of code may be said in other words; a mid-condition between two pieces. -/
import Derived.Test.YtdbgeahmhfocaaaGreatEngO
namespace Go.Proofs.YtdbgeahmhfocaaaGreat
set_option linter.unusedSimpArgs false
set_option linter.unusedVariables false
open Go Go.RowKit

section
variable {P : Program} {B : World}

theorem FnF_mono {g : Value} {args : Array Value} {σ : St} {K K' : Value → St → Prop} (hk : ∀ v σ', K v σ' → K' v σ') (h : FnF P B g args σ K) : FnF P B g args σ K' := by
  unfold FnF at h ⊢
  split at h <;> first | contradiction | skip
  exact h.mono hk

theorem pendQ_mono {Q Q' : Exit → Fr → St → Prop} (hq : ∀ x e σ, Q x e σ → Q' x e σ) {p : Option Code} {e : Fr} {σ : St} (h : pendQ Q p e σ) : pendQ Q' p e σ := by
  unfold pendQ at h ⊢
  split at h <;> first | contradiction | exact hq _ _ _ h

theorem wpS_mono {r : Option Nat} {n : Nat} : ∀ (c : Code) {Q Q' : Exit → Fr → St → Prop} (hq : ∀ x e σ, Q x e σ → Q' x e σ) (e : Fr) (σ : St), wpS P B r n c Q e σ → wpS P B r n c Q' e σ := by
  intro c
  induction c with
  | skip => exact fun hq e σ h => hq _ _ _ h
  | label l => exact fun hq e σ h => hq _ _ _ h
  | exit id => exact fun hq e σ h => hq _ _ _ h
  | goto l => exact fun hq e σ h => hq _ _ _ h
  | ret => exact fun hq e σ h => hq _ _ _ h
  | refuse why => exact fun hq e σ h => h.elim
  | region id ops draw =>
    intro Q Q' hq e σ h
    cases draw with
    | false => exact runL_mono (fun e σ => hq _ e σ) _ _ _ h
    | true => exact runD_mono (fun e σ => hq _ e σ) _ _ _ _ _ h
  | seq x y ihx ihy =>
    intro Q Q' hq e σ h
    refine ihx (fun z e σ hz => ?_) e σ h
    cases z with
    | normal => exact ihy hq e σ hz
    | _ => exact hq _ _ _ hz
  | cond c x y ihx ihy =>
    intro Q Q' hq e σ h
    simp only [wpS, brV] at h ⊢
    split at h <;> first | contradiction | skip
    exact ⟨fun hb => ihx hq e σ (h.1 hb), fun hb => ihy hq e σ (h.2 hb)⟩
  | block id c ih =>
    intro Q Q' hq e σ h
    refine ih (fun z e σ hz => ?_) e σ h
    cases z with
    | exit j =>
      simp only [blockQ] at hz ⊢
      split
      · rename_i hj; rw [if_pos hj] at hz; exact hq _ _ _ hz
      · rename_i hj; rw [if_neg hj] at hz; exact hq _ _ _ hz
    | _ => exact hq _ _ _ hz
  | loop c ih => exact fun hq e σ h hmix hok => (h hmix hok).mono hq
  | rangeFunc g ps x y ihx ihy =>
    intro Q Q' hq e σ h
    have step : ∀ (e : Fr) (l : Nat) (v : Value) (σ' : St), (∃ rec, σ'.m l = some (.raw (.loop rec)) ∧ rec.state ≠ .busy ∧ pendQ Q rec.pending e (σ'.set l (.raw (.loop { rec with state := .exhausted })))) →
        (∃ rec, σ'.m l = some (.raw (.loop rec)) ∧ rec.state ≠ .busy ∧ pendQ Q' rec.pending e (σ'.set l (.raw (.loop { rec with state := .exhausted })))) :=
      fun e l v σ' ⟨rec, h1, h2, h3⟩ => ⟨rec, h1, h2, pendQ_mono hq h3⟩
    cases r with
    | none => exact fun fn tm h1 h2 => FnF_mono (step _ _) (h fn tm h1 h2)
    | some l0 =>
      obtain ⟨rec0, hm0, h⟩ := h
      exact ⟨rec0, hm0, fun fn tm h1 h2 => FnF_mono (step _ _) (h fn tm h1 h2)⟩
  | scope c ih =>
    intro Q Q' hq e σ h
    cases r with
    | some l => exact h.elim
    | none =>
      refine ih (fun z e σ hz => ?_) e σ h
      cases z with
      | goto l => exact hz.elim
      | _ => exact hq _ _ _ hz

/-- Between two pieces of code just 'J' is kept. -/
theorem seq_mid {r : Option Nat} {n : Nat} {x y : Code} {Q : Exit → Fr → St → Prop} {e : Fr} {σ : St} (J : Fr → St → Prop) (h : wpS P B r n x (thenQ J Q) e σ) (hJ : ∀ e σ, J e σ → wpS P B r n y Q e σ) : wpS P B r n (.seq x y) Q e σ := by
  refine wpS_mono x (fun z e σ hz => ?_) e σ h
  cases z with
  | normal => exact hJ _ _ hz
  | _ => exact hz
theorem seq_of {r : Option Nat} {n : Nat} {x y : Code} {Q : Exit → Fr → St → Prop} {e : Fr} {σ : St} (h : wpS P B r n x (thenQ (wpS P B r n y Q) Q) e σ) : wpS P B r n (.seq x y) Q e σ := h
/-- A block's end is spoken of once. -/
theorem block_mid {r : Option Nat} {n : Nat} {id : Nat} {c : Code} {Q : Exit → Fr → St → Prop} {e : Fr} {σ : St} (J : Fr → St → Prop) (h : wpS P B r n c (blockQ id (thenQ J Q)) e σ) (hJ : ∀ e σ, J e σ → Q .normal e σ) : wpS P B r n (.block id c) Q e σ := by
  refine wpS_mono c (fun z e σ hz => ?_) e σ h
  cases z with
  | normal => exact hJ _ _ hz
  | exit j =>
    simp only [blockQ] at hz ⊢
    split
    · rename_i hj; rw [if_pos hj] at hz; exact hJ _ _ hz
    · rename_i hj; rw [if_neg hj] at hz; exact hz
  | _ => exact hz

/-- What a call leaves is a view of a world. -/
theorem Fn.wfK {f : FuncId} {args : Array Value} {σ : St} {K : Value → St → Prop} (h : Fn P B f args σ fun v σ' => σ'.wf B → K v σ') : Fn P B f args σ K :=
  ⟨h.1, fun w hw => (h.2 w hw).mono fun _ _ ⟨v, σ', e, r, k⟩ => ⟨v, σ', e, r, k r.wf⟩⟩
theorem callF_wf {f : FuncId} {args : Array Value} {d : Option Tmp} {K : Fr → St → Prop} {e : Fr} {σ : St} (h : Fn P B f args σ fun v σ' => σ'.wf B → K (e.put d v) σ') : callF P B f args d K e σ := h.wfK
theorem St.wf.set {σ : St} (h : σ.wf B) {b : Nat} (x : HP) (hb : B.heap.size ≤ b ∧ b < σ.n) : (σ.set b x).wf B := by
  refine ⟨h.1, fun c y hc => ?_⟩
  by_cases e : c = b
  · subst e; exact hb
  · rw [St.set_m_ne _ _ e] at hc; exact h.2 c y hc
theorem St.wf.up {σ : St} (h : σ.wf B) {k : Nat} (hk : σ.n ≤ k) : (σ.up k).wf B := ⟨Nat.le_trans h.1 hk, fun c y hc => by have := h.2 c y hc; simp only [St.up_n]; omega⟩
end
end Go.Proofs.YtdbgeahmhfocaaaGreat
