/- 'StepOne': what its threads do. -/
import Derived.Test.YtdbgeahmhfocaaaAwk21
namespace Go.Proofs.Ytdbgeahmhfocaaa
set_option linter.unusedSimpArgs false
set_option linter.unusedVariables false
set_option maxRecDepth 100000
open Go Go.RowKit
theorem mem_rise (l : List Int) : ∀ (n : Nat) (x : Int), x ∈ rise l n ↔ ∃ i, i < n ∧ x = (i : Int) ∧ hit l i = true
  | 0, x => by simp [rise]
  | n + 1, x => by
    rw [rise, List.mem_append, mem_rise l n]
    constructor
    · rintro (⟨i, h1, h2, h3⟩ | h)
      · exact ⟨i, by omega, h2, h3⟩
      · cases hh : hit l n with
        | true => rw [hh] at h; simp at h; exact ⟨n, by omega, h, hh⟩
        | false => rw [hh] at h; simp at h
    · rintro ⟨i, h1, h2, h3⟩
      by_cases e : i = n
      · subst e; rw [h3]; exact .inr (by simp [h2])
      · exact .inl ⟨i, by omega, h2, h3⟩
theorem mem_rise' (l : List Int) {n i : Nat} (hi : i < n) : (i : Int) ∈ rise l n ↔ hit l i = true := by
  rw [mem_rise]
  constructor
  · rintro ⟨j, _, h2, h3⟩
    have : i = j := by omega
    subst this; exact h3
  · exact fun h => ⟨i, hi, rfl, h⟩
theorem rise_lt (l : List Int) : ∀ n : Nat, (rise l n).Pairwise (fun a b => a < b)
  | 0 => by simp [rise]
  | n + 1 => by
    rw [rise, List.pairwise_append]
    refine ⟨rise_lt l n, by split <;> simp, fun a ha b hb => ?_⟩
    obtain ⟨i, h1, rfl, _⟩ := (mem_rise l n a).1 ha
    split at hb
    · simp at hb; subst hb; omega
    · simp at hb
theorem rise_nodup (l : List Int) (n : Nat) : (rise l n).Nodup := (rise_lt l n).imp fun h => by omega
theorem heldTo_rise (L : List Lk) (l : List Int) (u : Int) : ∀ n : Nat, (∀ i, i < n → ∃ x, L[i]? = some x ∧ (x.1 = u ↔ hit l i = true)) → heldTo L u n = rise l n
  | 0, _ => rfl
  | n + 1, h => by
    obtain ⟨x, hx, h1⟩ := h n (by omega)
    rw [heldTo, rise, heldTo_rise L l u n fun i hi => h i (by omega), hx]
    simp only [Option.map_some, Option.some.injEq]
    cases hh : hit l n with
    | true => rw [if_pos (h1.2 hh)]; rfl
    | false => rw [if_neg (fun e => by rw [h1.1 e] at hh; cases hh)]; rfl
theorem heldTo_none (L : List Lk) (u : Int) : ∀ n : Nat, (∀ i, i < n → ∃ x, L[i]? = some x ∧ x.1 ≠ u) → heldTo L u n = []
  | 0, _ => rfl
  | n + 1, h => by
    obtain ⟨x, hx, h1⟩ := h n (by omega)
    rw [heldTo, heldTo_none L u n fun i hi => h i (by omega), hx]
    simp [h1]
structure O1 where
  l : Nat → Lk
  c : Int × Int
  got : Int
  st : Bool
def O1.try (u : O1) (uo i : Int) : O1 := if 0 ≤ i ∧ i < (8 : Nat) then { u with l := updL u.l i.toNat (tryT (u.l i.toNat) uo) } else u
def O1.free (u : O1) (uo i : Int) : O1 := if 0 ≤ i ∧ i < (8 : Nat) then { u with l := updL u.l i.toNat (freeT (u.l i.toNat) uo) } else u
def O1.load (u : O1) : O1 := { u with c := (u.c.1, IntKind.i64.wrap (u.c.2 + 1)) }
def O1.cas (u : O1) (old new : Int) : O1 := { u with c := (if u.c.1 = old then new else u.c.1, IntKind.i64.wrap (u.c.2 + 1)) }
def exO (_ : Nat) (u : O1) : Act → O1 × List Act × Bool
  | .lk i => (u.try 3 i, [], decide (0 ≤ i ∧ i < (8 : Nat)) && tryB (u.l i.toNat).1 3)
  | .fr i => (u.free 3 i, [], true)
  | .ld => ({ u.load with got := u.c.1 }, [], true)
  | .cs x => ({ u.cas x 7 with st := decide (u.c.1 = x) }, [], true)
  | .ef 0 => (u, [], true)
  | .ef 1 => (u.load, [], true)
  | .ef _ => (u.cas 7 7, [], true)
section
variable {B : World} {H : O1 → HF}
abbrev oL (H : O1 → HF) : Lg B := hLg O1 Act exO H
def oT (os : List Int) (old : Int) : List Act := os.map .lk ++ [.ld, .cs old]
def o1S (os : List Int) (old : Int) (u : O1) : O1 × (Nat → List Act) := (u, fun t => if t = 0 then oT os old else [])
/-- Who holds what. -/
def Own8 (l : Nat → Lk) (p : Nat → Prop) : Prop := ∀ i, i < 8 → (p i → (l i).1 = 3) ∧ (¬ p i → (l i).1 = 0)
inductive Gd1 (os : List Int) (value old : Int) : O1 → List Act → Prop
  | lks (k : Nat) (u : O1) : k ≤ os.length → Own8 u.l (fun i => (i : Int) ∈ os.take k) → u.c = (value, 0) → Gd1 os value old u ((os.drop k).map .lk ++ [.ld, .cs old])
  | got (u : O1) : Own8 u.l (fun i => (i : Int) ∈ os) → u.c = (value, 1) → u.got = value → Gd1 os value old u [.cs old]
  | fin (u : O1) : Own8 u.l (fun i => (i : Int) ∈ os) → u.c.2 = 2 → u.got = value → u.st = decide (value = old) → Gd1 os value old u []
variable {os : List Int} {value old : Int}
theorem one_prg (hr : ∀ x ∈ os, 0 ≤ x ∧ x < 8) (hnd : os.Nodup) : Prg (lgSys (oL (B := B) H) 1) (fun x => Gd1 os value old x.1 (x.2 0)) (fun x => (x.2 0).length) := by
  have key : ∀ (u : O1) (T : List Act), Gd1 os value old u T → T ≠ [] → ∃ a r, T = a :: r ∧ (exO 0 u a).2.2 = true ∧ (exO 0 u a).2.1 = [] ∧ Gd1 os value old (exO 0 u a).1 r := by
    intro u T hg hT
    cases hg with
    | lks k u hk ho hc =>
      by_cases hkl : k = os.length
      · subst hkl
        rw [List.drop_length]
        refine ⟨_, _, rfl, rfl, rfl, .got _ ?_ ?_ ?_⟩
        · rw [List.take_length] at ho; exact ho
        · simp [exO, O1.load, hc, IntKind.wrap]; rfl
        · simp [exO, O1.load, hc]
      · obtain ⟨x, hx⟩ : ∃ x, os[k]? = some x := ⟨os[k]'(by omega), List.getElem?_eq_getElem (by omega)⟩
        have hxm := List.mem_of_getElem? hx
        obtain ⟨h0, h8⟩ := hr x hxm
        have hd : os.drop k = x :: os.drop (k + 1) := by
          rw [List.drop_eq_getElem_cons (by omega)]
          rw [List.getElem?_eq_getElem (by omega)] at hx
          rw [Option.some.inj hx]
        have hnt : x ∉ os.take k := fun hm => by
          have h2 : os = os.take k ++ os.drop k := (List.take_append_drop k os).symm
          rw [h2, List.nodup_append] at hnd
          exact hnd.2.2 x hm x (by rw [hd]; simp) rfl
        have how : (u.l x.toNat).1 = 0 := (ho x.toNat (by omega)).2 (by show ¬ ((x.toNat : Nat) : Int) ∈ os.take k; rw [show ((x.toNat : Nat) : Int) = x by omega]; exact hnt)
        rw [hd]
        refine ⟨_, _, rfl, ?_, rfl, ?_⟩
        · simp [exO, h0, h8, tryB, how]
        · have e1 : (exO 0 u (.lk x)).1 = { u with l := updL u.l x.toNat (3, IntKind.i64.wrap ((u.l x.toNat).2.1 + 1), IntKind.i64.wrap ((u.l x.toNat).2.2 + 1)) } := by
            simp only [exO, O1.try]
            rw [if_pos ⟨h0, by omega⟩]
            simp [tryT, how]
          rw [e1]
          refine .lks (k + 1) _ (by omega) (fun i hi => ?_) hc
          have e2 : os.take (k + 1) = os.take k ++ [x] := by rw [List.take_add_one, hx]; rfl
          simp only [e2, List.mem_append, List.mem_singleton]
          by_cases e : i = x.toNat
          · subst e
            refine ⟨fun _ => by simp [updL], fun hn => absurd (.inr (by omega)) hn⟩
          · simp only [updL, if_neg e]
            refine ⟨fun h => (ho i hi).1 (h.resolve_right (by omega)), fun h => (ho i hi).2 fun h' => h (.inl h')⟩
    | got u ho hc hg =>
      refine ⟨_, _, rfl, rfl, rfl, .fin _ ho ?_ hg ?_⟩
      · simp [exO, O1.cas, hc, IntKind.wrap]; rfl
      · simp [exO, hc]
    | fin u ho hc hg hs => exact absurd rfl hT
  have tr0 : ∀ (x : O1 × (Nat → List Act)) (a : Act) (r : List Act), x.2 0 = a :: r → (exO 0 x.1 a).2.2 = true → (exO 0 x.1 a).2.1 = [] → lgTr (L := oL (B := B) H) x 0 = (((exO 0 x.1 a).1, updL x.2 0 r), true) := by
    intro x a r hT h1 h2
    unfold lgTr
    rw [hT]
    show (((exO 0 x.1 a).1, if (exO 0 x.1 a).2.2 then updL x.2 0 ((exO 0 x.1 a).2.1 ++ r) else x.2), (exO 0 x.1 a).2.2) = _
    rw [h1, h2]; rfl
  have live : ∀ {x : O1 × (Nat → List Act)} {t : Nat}, t < 1 → (lgSys (oL (B := B) H) 1).live x t = true → t = 0 ∧ x.2 0 ≠ [] := fun {x t} ht hl => by
    have : t = 0 := by omega
    subst this
    refine ⟨rfl, fun e => ?_⟩
    have hl : (!(x.2 0).isEmpty) = true := hl
    rw [e] at hl; cases hl
  refine ⟨fun {x t} hg ht hl => ?_, fun {x t} hg ht hl hok => ?_, fun {x t} hg ht hl hno => ?_, fun {x} hg hl => ?_, fun {x} hg hl => ?_⟩
  · obtain ⟨rfl, hne⟩ := live ht hl
    obtain ⟨a, r, hT, h1, h2, h3⟩ := key _ _ hg hne
    show Gd1 os value old (lgTr x 0).1.1 ((lgTr x 0).1.2 0)
    rw [tr0 x a r hT h1 h2]
    simp only [updL, if_true]; exact h3
  · obtain ⟨rfl, hne⟩ := live ht hl
    obtain ⟨a, r, hT, h1, h2, h3⟩ := key _ _ hg hne
    show ((lgTr x 0).1.2 0).length + 1 = _
    rw [tr0 x a r hT h1 h2, hT]
    simp [updL]
  · obtain ⟨rfl, hne⟩ := live ht hl
    obtain ⟨a, r, hT, h1, h2, h3⟩ := key _ _ hg hne
    have hno : (lgTr (L := oL (B := B) H) x 0).2 = false := hno
    rw [tr0 x a r hT h1 h2] at hno; cases hno
  · obtain ⟨t, ht, hl⟩ := left_of hl
    obtain ⟨rfl, hne⟩ := live ht hl
    obtain ⟨a, r, hT, h1, h2, h3⟩ := key _ _ hg hne
    refine ⟨0, ht, hl, ?_⟩
    show (lgTr (L := oL (B := B) H) x 0).2 = true
    rw [tr0 x a r hT h1 h2]
  · have := left_none hl (t := 0) (show (0 : Nat) < 1 by omega)
    have this : (!(x.2 0).isEmpty) = false := this
    cases hT : x.2 0 with
    | nil => rfl
    | cons a r => rw [hT] at this; cases this
theorem one_run (hr : ∀ x ∈ os, 0 ≤ x ∧ x < 8) (hnd : os.Nodup) (hl : os.length ≤ 8) {u : O1} (hu : ∀ i, i < 8 → (u.l i).1 = 0) (hc : u.c = (value, 0)) {R} (hR : Sys.loopA (Y := lgSys (oL (B := B) H) 1) 70000 (Sys.picksA ⟨o1S os old u, [], 0⟩ []) = R) :
    R.2 = 0 ∧ R.1.mv.length = os.length + 2 ∧ Own8 R.1.x.1.l (fun i => (i : Int) ∈ os) ∧ R.1.x.1.c.2 = 2 ∧ R.1.x.1.got = value ∧ R.1.x.1.st = decide (value = old) := by
  have h0 : Gd1 os value old (o1S os old u).1 ((o1S os old u).2 0) := by
    have := Gd1.lks (os := os) (old := old) 0 u (by omega) (fun i hi => ⟨fun h => by simp at h, fun _ => hu i hi⟩) hc
    simpa [o1S, oT] using this
  obtain ⟨h1, h2, h3, h4⟩ := run_ends (one_prg (B := B) (H := H) hr hnd) (x0 := o1S os old u) (by simp [o1S, oT]; omega) h0 []
  rw [hR] at h1 h2 h3 h4
  have hT : R.1.x.2 0 = [] := by
    have := left_none h2 (t := 0) (show (0 : Nat) < 1 by omega)
    have this : (!(R.1.x.2 0).isEmpty) = false := this
    cases hT : R.1.x.2 0 with
    | nil => rfl
    | cons a r => rw [hT] at this; cases this
  refine ⟨h1, by rw [h4]; simp [o1S, oT], ?_⟩
  generalize R.1.x.1 = u' at h3 ⊢
  rw [hT] at h3
  generalize hTT : ([] : List Act) = TT at h3
  cases h3 with
  | lks k u _ _ _ => simp at hTT
  | got u _ _ _ => cases hTT
  | fin u ho hc hg hs => exact ⟨ho, hc, hg, hs⟩
/-! ### The second run: four threads -/
def o2S (os : List Int) (u : O1) : O1 × (Nat → List Act) := (u, fun t => if t = 0 then os.map .fr else if t < 4 then [.ef (t - 1)] else [])
structure Gd2 (os : List Int) (x : O1 × (Nat → List Act)) : Prop where
  f : ∃ k, k ≤ os.length ∧ x.2 0 = (os.drop k).map .fr ∧ Own8 x.1.l (fun i => (i : Int) ∈ os.drop k)
  e : ∀ t, 0 < t → ∀ a ∈ x.2 t, ∃ k, a = .ef k
def mu2 (x : O1 × (Nat → List Act)) : Nat := (x.2 0).length + ((x.2 1).length + ((x.2 2).length + (x.2 3).length))
theorem ef_keep (u : O1) (k : Nat) : (exO 0 u (.ef k)).1.l = u.l ∧ (exO 0 u (.ef k)).2 = ([], true) := by
  match k with
  | 0 => exact ⟨rfl, rfl⟩
  | 1 => exact ⟨rfl, rfl⟩
  | k + 2 => exact ⟨rfl, rfl⟩
theorem two_step (hr : ∀ x ∈ os, 0 ≤ x ∧ x < 8) (hnd : os.Nodup) {x : O1 × (Nat → List Act)} {t : Nat} (ht : t < 4) (hg : Gd2 os x) (hl : (lgSys (oL (B := B) H) 4).live x t = true) :
    (lgTr (L := oL (B := B) H) x t).2 = true ∧ Gd2 os (lgTr (L := oL (B := B) H) x t).1 ∧ mu2 (lgTr (L := oL (B := B) H) x t).1 + 1 = mu2 x := by
  have hl : (!(x.2 t).isEmpty) = true := hl
  obtain ⟨a, r, hT⟩ : ∃ a r, x.2 t = a :: r := by
    cases h : x.2 t with
    | nil => rw [h] at hl; cases hl
    | cons a r => exact ⟨a, r, rfl⟩
  have main : (exO t x.1 a).2 = ([], true) → Gd2 os ((exO t x.1 a).1, updL x.2 t r) → (lgTr (L := oL (B := B) H) x t).2 = true ∧ Gd2 os (lgTr (L := oL (B := B) H) x t).1 ∧ mu2 (lgTr (L := oL (B := B) H) x t).1 + 1 = mu2 x := by
    intro h1 h2
    have e : lgTr (L := oL (B := B) H) x t = (((exO t x.1 a).1, updL x.2 t r), true) := by
      unfold lgTr
      rw [hT]
      show (((exO t x.1 a).1, if (exO t x.1 a).2.2 then updL x.2 t ((exO t x.1 a).2.1 ++ r) else x.2), (exO t x.1 a).2.2) = _
      rw [h1]; rfl
    rw [e]
    refine ⟨rfl, h2, ?_⟩
    unfold mu2 updL
    have : t = 0 ∨ t = 1 ∨ t = 2 ∨ t = 3 := by omega
    rcases this with rfl | rfl | rfl | rfl <;> simp [hT] <;> omega
  by_cases h0 : t = 0
  · subst h0
    obtain ⟨k, hk, hT2, ho⟩ := hg.f
    rw [hT] at hT2
    have hkl : k < os.length := by
      rcases Nat.lt_or_ge k os.length with h | h
      · exact h
      · rw [List.drop_of_length_le h] at hT2; cases hT2
    obtain ⟨y, hy⟩ : ∃ y, os[k]? = some y := ⟨os[k]'hkl, List.getElem?_eq_getElem hkl⟩
    have hym := List.mem_of_getElem? hy
    obtain ⟨h0, h8⟩ := hr y hym
    have hd : os.drop k = y :: os.drop (k + 1) := by
      rw [List.drop_eq_getElem_cons hkl]
      rw [List.getElem?_eq_getElem hkl] at hy
      rw [Option.some.inj hy]
    have hnd2 : (os.drop k).Nodup := hnd.sublist (List.drop_sublist k os)
    rw [hd] at hT2 ho hnd2
    rw [List.nodup_cons] at hnd2
    rw [List.map_cons] at hT2
    injection hT2 with e1 e2
    subst e1 e2
    have how : (x.1.l y.toNat).1 = 3 := (ho y.toNat (by omega)).1 (by show ((y.toNat : Nat) : Int) ∈ y :: os.drop (k + 1); rw [show ((y.toNat : Nat) : Int) = y by omega]; simp)
    refine main rfl ⟨⟨k + 1, by omega, by simp [updL], fun i hi => ?_⟩, fun t ht a ha => ?_⟩
    · have e3 : (exO 0 x.1 (.fr y)).1 = { x.1 with l := updL x.1.l y.toNat (0, IntKind.i64.wrap ((x.1.l y.toNat).2.1 + 1), (x.1.l y.toNat).2.2) } := by
        simp only [exO, O1.free]
        rw [if_pos ⟨h0, by omega⟩]
        simp [freeT, how]
      rw [e3]
      by_cases e : i = y.toNat
      · subst e
        refine ⟨fun h => absurd ?_ hnd2.1, fun _ => by simp [updL]⟩
        have h : ((y.toNat : Nat) : Int) ∈ os.drop (k + 1) := h
        rw [show ((y.toNat : Nat) : Int) = y by omega] at h; exact h
      · simp only [updL, if_neg e]
        refine ⟨fun h => (ho i hi).1 (List.mem_cons_of_mem _ h), fun h => (ho i hi).2 fun h' => ?_⟩
        rcases List.mem_cons.1 h' with h' | h'
        · omega
        · exact h h'
    · simp only [updL, if_neg (show ¬ t = 0 by omega)] at ha
      exact hg.e t ht a ha
  · obtain ⟨k, rfl⟩ := hg.e t (by omega) a (by rw [hT]; simp)
    obtain ⟨h1, h2⟩ := ef_keep x.1 k
    obtain ⟨k', hk, hT2, ho⟩ := hg.f
    refine main h2 ⟨⟨k', hk, ?_, ?_⟩, fun j hj a ha => ?_⟩
    · simp only [updL, if_neg (show ¬ 0 = t by omega)]; exact hT2
    · show Own8 (exO t x.1 (.ef k)).1.l _
      rw [show (exO t x.1 (.ef k)).1.l = x.1.l from h1]; exact ho
    · simp only [updL] at ha
      split at ha
      · exact hg.e t (by omega) a (by rw [hT]; exact List.mem_cons_of_mem _ ha)
      · exact hg.e j hj a ha
theorem two_prg (hr : ∀ x ∈ os, 0 ≤ x ∧ x < 8) (hnd : os.Nodup) : Prg (lgSys (oL (B := B) H) 4) (Gd2 os) mu2 := by
  refine ⟨fun {x t} hg ht hl => (two_step (B := B) (H := H) hr hnd ht hg hl).2.1, fun {x t} hg ht hl hok => (two_step (B := B) (H := H) hr hnd ht hg hl).2.2, fun {x t} hg ht hl hno => ?_, fun {x} hg hl => ?_, fun {x} hg hl => ?_⟩
  · have h1 := (two_step (B := B) (H := H) hr hnd ht hg hl).1
    have hno : (lgTr (L := oL (B := B) H) x t).2 = false := hno
    rw [h1] at hno; cases hno
  · obtain ⟨t, ht, hl⟩ := left_of hl
    exact ⟨t, ht, hl, (two_step (B := B) (H := H) hr hnd ht hg hl).1⟩
  · have h1 : ∀ t, t < 4 → (x.2 t).length = 0 := fun t ht => by
      have := left_none hl (t := t) ht
      have this : (!(x.2 t).isEmpty) = false := this
      cases hT : x.2 t with
      | nil => rfl
      | cons a r => rw [hT] at this; cases this
    unfold mu2
    rw [h1 0 (by omega), h1 1 (by omega), h1 2 (by omega), h1 3 (by omega)]
theorem two_run (hr : ∀ x ∈ os, 0 ≤ x ∧ x < 8) (hnd : os.Nodup) (hl : os.length ≤ 8) {u : O1} (hu : Own8 u.l (fun i => (i : Int) ∈ os)) {R} (hR : Sys.loopA (Y := lgSys (oL (B := B) H) 4) 70000 (Sys.picksA ⟨o2S os u, [], 0⟩ []) = R) :
    R.2 = 0 ∧ R.1.mv.length = os.length + 3 ∧ ∀ i, i < 8 → (R.1.x.1.l i).1 = 0 := by
  have h0 : Gd2 os (o2S os u) := ⟨⟨0, by omega, rfl, hu⟩, fun t ht a ha => by
    simp only [o2S, if_neg (show ¬ t = 0 by omega)] at ha
    split at ha
    · simp at ha; exact ⟨_, ha⟩
    · simp at ha⟩
  have hm : mu2 (o2S os u) = os.length + 3 := by simp [mu2, o2S]
  obtain ⟨h1, h2, h3, h4⟩ := run_ends (two_prg (B := B) (H := H) hr hnd) (x0 := o2S os u) (by rw [hm]; omega) h0 []
  rw [hR] at h1 h2 h3 h4
  refine ⟨h1, by rw [h4, hm], ?_⟩
  have hT : R.1.x.2 0 = [] := by
    have := left_none h2 (t := 0) (show (0 : Nat) < 4 by omega)
    have this : (!(R.1.x.2 0).isEmpty) = false := this
    cases hT : R.1.x.2 0 with
    | nil => rfl
    | cons a r => rw [hT] at this; cases this
  obtain ⟨k, hk, hT2, ho⟩ := h3.f
  rw [hT] at hT2
  have hkd : os.drop k = [] := by
    cases h : os.drop k with
    | nil => rfl
    | cons a r => rw [h] at hT2; cases hT2
  exact fun i hi => (ho i hi).2 (by rw [hkd]; simp)
/-! ### The third run: two threads that wait -/
abbrev L3 := Nat → Lk
def ex3 (_ : Nat) (u : L3) : Act → L3 × List Act × Bool
  | .lk i => (if 0 ≤ i ∧ i < (1 : Nat) then updL u i.toNat (tryT (u i.toNat) 3) else u, [], decide (0 ≤ i ∧ i < (1 : Nat)) && tryB (u i.toNat).1 3)
  | _ => (u, [], true)
abbrev tL (H : L3 → HF) : Lg B := hLg L3 Act ex3 H
def o3S (u : L3) : L3 × (Nat → List Act) := (u, fun t => if t < 2 then [.lk t] else [])
theorem three_run {H : L3 → HF} (n k : Int) {R} (hR : Sys.loopA (Y := lgSys (tL (B := B) H) 2) 70000 (Sys.picksA ⟨o3S (fun _ => (9, n, k)), [], 0⟩ []) = R) : R.2 = 12 ∧ R.1.mv = [] ∧ (R.1.x.1 0).1 = 9 := by
  have h1 : Sys.picksA (Y := lgSys (tL (B := B) H) 2) ⟨o3S (fun _ => (9, n, k)), [], 0⟩ [] = ⟨o3S (fun _ => (9, n, k)), [], 0⟩ := rfl
  rw [h1] at hR
  rw [show (70000 : Nat) = 69999 + 1 from rfl, Sys.loopA] at hR
  have h2 : Sys.leftA (Y := lgSys (tL (B := B) H) 2) (o3S (fun _ => (9, n, k))) = true := rfl
  have h3 : (Sys.roundA (Y := lgSys (tL (B := B) H) 2) ⟨o3S (fun _ => (9, n, k)), [], 0⟩ 0 false (lgSys (tL (B := B) H) 2).n).2 = false := rfl
  have h4 : (Sys.roundA (Y := lgSys (tL (B := B) H) 2) ⟨o3S (fun _ => (9, n, k)), [], 0⟩ 0 false (lgSys (tL (B := B) H) 2).n).1.mv = [] := rfl
  have h5 : ((Sys.roundA (Y := lgSys (tL (B := B) H) 2) ⟨o3S (fun _ => (9, n, k)), [], 0⟩ 0 false (lgSys (tL (B := B) H) 2).n).1.x.1 0).1 = 9 := rfl
  have h6 : Sys.fullA (Y := lgSys (tL (B := B) H) 2) ⟨o3S (fun _ => (9, n, k)), [], 0⟩ = false := rfl
  simp only [h2, h6, h3, if_true, Bool.false_eq_true, if_false] at hR
  subst hR
  exact ⟨rfl, h4, h5⟩
end
end Go.Proofs.Ytdbgeahmhfocaaa
