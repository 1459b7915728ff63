/- The document's example of a core: what the run does. -/
import Derived.Test.YtdbgeahmhfocaaaGreatWld2
namespace Go.Proofs.YtdbgeahmhfocaaaGreat
set_option linter.unusedSimpArgs false
set_option linter.unusedVariables false
set_option maxRecDepth 100000
open Go Go.RowKit
def awM : Mg := ⟨⟨#[97]⟩, ⟨#[120]⟩, false⟩
def awO : COp := ⟨4, 1, ⟨#[]⟩, ⟨#[]⟩, false⟩
def awR : Nat → RgS := updL (fun _ => ⟨[], 0, 0⟩) 0 (putR 2 ⟨[], 0, 0⟩ awM)
def awU : CU := ⟨fun _ => (0, 0, 0), ⟨[], 0⟩, awR⟩
def awA0 : CAn := ⟨0, 0, 0, ⟨#[97]⟩, ⟨#[120]⟩, false⟩
def awL : LS := ⟨[⟨0, 0, awO, awA0, 1, 2⟩, ⟨0, 1, awO, anE 7, 3, 4⟩], 4⟩
section
variable {B : World} {H : CU → HF}
def awX : CU × (Nat → List CA) := (awU, updL (fun _ => []) 0 [.bg awO, .bg awO])
def orb (B : World) (H : CU → HF) : Nat → CU × (Nat → List CA)
  | 0 => awX
  | k + 1 => (lgTr (L := cL (B := B) 1 2 H) (orb B H k) 0).1
def endB (S : LS) (j : Nat) : Bool := decide (S.now ≤ 1000000) && decide (S.l.length ≤ 100000) && match S.l[j]? with
  | some c => decide (c.to = 0)
  | none => false
theorem endB_ok {S : LS} {j : Nat} (h : endB S j = true) : EndOk S j := by
  unfold endB at h
  simp only [Bool.and_eq_true, decide_eq_true_eq] at h
  obtain ⟨⟨h1, h2⟩, h3⟩ := h
  refine ⟨⟨h1, h2⟩, ?_⟩
  cases hx : S.l[j]? with
  | none => rw [hx] at h3; cases h3
  | some c => rw [hx] at h3; exact ⟨c, rfl, by simpa using h3⟩
def preB (u : CU) : CA → Bool
  | .bg _ => decide (u.log.now ≤ 1000000) && decide (u.log.l.length ≤ 100000)
  | .lk _ => true
  | .fr _ => true
  | .po i j _ => decide ((u.rg i).L.length ≤ 2) && decide ((u.rg i).G ≤ 1000000) && endB u.log j
  | .fe _ j _ => endB u.log j
  | .an j => endB u.log j
theorem preB_ok {t : Nat} {u : CU} {a : CA} (h : preB u a = true) : preC 2 t u a := by
  cases a with
  | bg op => simp only [preB, Bool.and_eq_true, decide_eq_true_eq] at h; exact ⟨h.1, h.2⟩
  | lk i => trivial
  | fr i => trivial
  | po i j d => simp only [preB, Bool.and_eq_true, decide_eq_true_eq] at h; exact ⟨⟨h.1.1, h.1.2⟩, endB_ok h.2⟩
  | fe i j a => exact endB_ok h
  | an j => exact endB_ok h
def okB (B : World) (H : CU → HF) (k : Nat) : Bool := match (orb B H k).2 0 with
  | [] => true
  | a :: _ => preB (orb B H k).1 a
theorem ok_all : (List.range 9).all (okB B H) = true := by kernel_rfl
theorem orb_end : (orb B H 8).2 0 = [] := by kernel_rfl
def AwG (B : World) (H : CU → HF) (x : CU × (Nat → List CA)) : Prop := ∃ k, k ≤ 8 ∧ x = orb B H k
theorem aw_pre : ∀ (x : CU × (Nat → List CA)) t a r, AwG B H x → t < 1 → x.2 t = a :: r → preC 2 t x.1 a := by
  rintro x t a r ⟨k, hk, rfl⟩ ht hx
  obtain rfl : t = 0 := by omega
  have h := List.all_eq_true.1 (ok_all (B := B) (H := H)) k (List.mem_range.2 (by omega))
  unfold okB at h
  rw [hx] at h
  exact preB_ok h
theorem aw_step : ∀ (x : CU × (Nat → List CA)) t, AwG B H x → t < 1 → x.2 t ≠ [] → AwG B H (lgTr (L := cL (B := B) 1 2 H) x t).1 := by
  rintro x t ⟨k, hk, rfl⟩ ht hx
  obtain rfl : t = 0 := by omega
  by_cases h8 : k = 8
  · subst h8
    exact absurd orb_end hx
  · exact ⟨k + 1, by omega, rfl⟩
abbrev awS (B : World) (H : CU → HF) : Sys B := lgSys (cL (B := B) 1 2 H) 1 (AwG B H) aw_pre aw_step
theorem awr : (Sys.loopA (Y := awS B H) 70000 (Sys.picksA ⟨awX, [], 0⟩ [])).2 = 0 ∧
    (Sys.loopA (Y := awS B H) 70000 (Sys.picksA ⟨awX, [], 0⟩ [])).1.x.1.log = awL := ⟨by kernel_rfl, by kernel_rfl⟩
end
end Go.Proofs.YtdbgeahmhfocaaaGreat
