/- 'EpochSafe': what holds all along: plain laws. -/
import Derived.Test.YtgcojbgkenndhaaEPlays
namespace Go.Proofs.Ytgcojbgkenndhaa
set_option linter.unusedSimpArgs false
set_option linter.unusedVariables false
open Go Go.RowKit

abbrev Row := Nat → Bool
/-- The told ones, behind a telling. -/
def tellAll (a : List Int) (told : List Bool) : List Bool := a.foldl (fun t x => t.set x.toNat true) told
theorem tellAll_len (a : List Int) : ∀ told : List Bool, (tellAll a told).length = told.length := by
  induction a with
  | nil => intro told; rfl
  | cons x a ih => intro told; show (tellAll a (told.set x.toNat true)).length = _; rw [ih]; simp
theorem tellAll_get (a : List Int) (ha : ∀ x ∈ a, 0 ≤ x) : ∀ (told : List Bool) (i : Nat), i < told.length → (tellAll a told)[i]? = if (i : Int) ∈ a then some true else told[i]? := by
  induction a with
  | nil => intro told i _; simp [tellAll]
  | cons x a ih =>
    intro told i hi
    have hx := ha x (by simp)
    show (tellAll a (told.set x.toNat true))[i]? = _
    rw [ih (fun y hy => ha y (by simp [hy])) _ i (by simpa using hi)]
    by_cases h : (i : Int) ∈ a
    · rw [if_pos h, if_pos (by simp [h])]
    · rw [if_neg h]
      by_cases e : (i : Int) = x
      · rw [if_pos (by simp [e])]
        have : x.toNat = i := by omega
        rw [this, List.getElem?_set_self hi]
      · rw [if_neg (by simp [h, e])]
        rw [List.getElem?_set_ne (by omega)]
structure Sf (S : ES) (Z : List (Int × Int)) (n : Nat) (told : List Bool) : Prop where
  lk : LK S Z
  pn : S.pin.length = 8
  pr : ∀ (t : Nat) (e : Int), S.pin[t]? = some e → e = -1 ∨ ((S.now : Int) - 1 ≤ e ∧ e ≤ S.now ∧ 0 ≤ e)
  tl : told.length = 300
  wl : n ≤ 300
  id : ∀ z ∈ Z, ∃ i : Nat, z.1 = i ∧ i < n ∧ told[i]? = some false
  nd : (Z.map fun z => z.1).Nodup
  al : ∀ i : Nat, i < n → told[i]? = some false → (i : Int) ∈ Z.map fun z => z.1
  fr : ∀ i : Nat, n ≤ i → i < 300 → told[i]? = some false
/-- Who was pinned when something was retired, and wasn't unpinned since, is pinned from then on. -/
def Seen (S : ES) (Z : List (Int × Int)) (who : List Row) : Prop :=
  ∀ z ∈ Z, ∀ (i : Nat) (r : Row) (t : Nat), z.1 = i → who[i]? = some r → t < 8 → r t = true → ∃ e, S.pin[t]? = some e ∧ 0 ≤ e ∧ e ≤ z.2
theorem isPin_iff {pin : List Int} {t : Nat} : isPin pin t = true ↔ ∃ e, pin[t]? = some e ∧ 0 ≤ e := by
  unfold isPin
  by_cases h : t < pin.length
  · simp [h, List.getD]
  · simp [h]
theorem Sf.pin {S : ES} {Z : List (Int × Int)} {n : Nat} {told : List Bool} (h : Sf S Z n told) (t : Nat) : Sf { S with pin := S.pin.set t S.now } Z n told := by
  refine ⟨⟨h.lk.rng, h.lk.e0, h.lk.e1, h.lk.e2⟩, by simpa using h.pn, fun t' e he => ?_, h.tl, h.wl, h.id, h.nd, h.al, h.fr⟩
  simp only at he ⊢
  rw [List.getElem?_set] at he
  split at he
  · split at he
    · cases he; right; omega
    · cases he
  · exact h.pr t' e he
theorem Sf.unpin {S : ES} {Z : List (Int × Int)} {n : Nat} {told : List Bool} (h : Sf S Z n told) (t : Nat) : Sf { S with pin := S.pin.set t (-1) } Z n told := by
  refine ⟨⟨h.lk.rng, h.lk.e0, h.lk.e1, h.lk.e2⟩, by simpa using h.pn, fun t' e he => ?_, h.tl, h.wl, h.id, h.nd, h.al, h.fr⟩
  simp only at he ⊢
  rw [List.getElem?_set] at he
  split at he
  · split at he
    · cases he; left; rfl
    · cases he
  · exact h.pr t' e he
theorem Seen.pin {S : ES} {Z : List (Int × Int)} {who : List Row} (h : Seen S Z who) {t : Nat} (ht : isPin S.pin t = false) : Seen { S with pin := S.pin.set t S.now } Z who := by
  intro z hz i r t' hi hr ht' hrt
  obtain ⟨e, he, h0, h1⟩ := h z hz i r t' hi hr ht' hrt
  refine ⟨e, ?_, h0, h1⟩
  have hne : t ≠ t' := fun h2 => by
    subst h2
    rw [isPin_iff.2 ⟨e, he, h0⟩] at ht; cases ht
  simp only
  rw [List.getElem?_set_ne hne]; exact he
def clr (t : Nat) (r : Row) : Row := fun t' => if t' = t then false else r t'
theorem Seen.unpin {S : ES} {Z : List (Int × Int)} {who : List Row} (h : Seen S Z who) (t : Nat) : Seen { S with pin := S.pin.set t (-1) } Z (who.map (clr t)) := by
  intro z hz i r t' hi hr ht' hrt
  rw [List.getElem?_map] at hr
  obtain ⟨r0, hr0, rfl⟩ := Option.map_eq_some_iff.1 hr
  unfold clr at hrt
  split at hrt
  · cases hrt
  · rename_i hne
    obtain ⟨e, he, h0, h1⟩ := h z hz i r0 t' hi hr0 ht' hrt
    exact ⟨e, by simp only; rw [List.getElem?_set_ne (Ne.symm hne)]; exact he, h0, h1⟩
theorem Seen.clear {S : ES} {Z : List (Int × Int)} {who : List Row} (h : Seen S Z who) (t : Nat) : Seen S Z (who.map (clr t)) := by
  intro z hz i r t' hi hr ht' hrt
  rw [List.getElem?_map] at hr
  obtain ⟨r0, hr0, rfl⟩ := Option.map_eq_some_iff.1 hr
  unfold clr at hrt
  split at hrt
  · cases hrt
  · exact h z hz i r0 t' hi hr0 ht' hrt
theorem Sf.retire {S : ES} {Z : List (Int × Int)} {n : Nat} {told : List Bool} (h : Sf S Z n told) (hn : n < 300) : Sf (S.put (S.now % 3) (S.get (S.now % 3) ++ [(n : Int)])) (Z ++ [((n : Int), (S.now : Int))]) (n + 1) told := by
  refine ⟨h.lk.retire n, by rw [put_pin]; exact h.pn, fun t e he => by rw [put_pin] at he; rw [put_now]; exact h.pr t e he, h.tl, hn, fun z hz => ?_, ?_, fun i hi ht => ?_, fun i hi => h.fr i (by omega)⟩
  · rcases List.mem_append.1 hz with hz | hz
    · obtain ⟨i, h1, h2, h3⟩ := h.id z hz
      exact ⟨i, h1, by omega, h3⟩
    · simp only [List.mem_singleton] at hz; subst hz
      exact ⟨n, rfl, by omega, h.fr n (Nat.le_refl _) hn⟩
  · rw [List.map_append, List.nodup_append]
    refine ⟨h.nd, by simp, fun a ha b hb => ?_⟩
    obtain ⟨z, hz, rfl⟩ := List.mem_map.1 ha
    obtain ⟨i, h1, h2, h3⟩ := h.id z hz
    simp only [List.map_cons, List.map_nil, List.mem_singleton] at hb
    omega
  · rw [List.map_append, List.mem_append]
    by_cases e : i = n
    · right; subst e; simp
    · left; exact h.al i (by omega) ht
theorem Seen.retire {S : ES} {Z : List (Int × Int)} {who : List Row} {told : List Bool} (h : Seen S Z who) (hs : Sf S Z who.length told) {r0 : Row} (hr0 : ∀ t, t < 8 → r0 t = isPin S.pin t) : Seen (S.put (S.now % 3) (S.get (S.now % 3) ++ [(who.length : Int)])) (Z ++ [((who.length : Int), (S.now : Int))]) (who ++ [r0]) := by
  intro z hz i r t hi hr ht hrt
  rw [put_pin]
  rcases List.mem_append.1 hz with hz | hz
  · obtain ⟨i', h1, h2, h3⟩ := hs.id z hz
    have : i = i' := by omega
    subst this
    rw [List.getElem?_append_left h2] at hr
    exact h z hz i r t hi hr ht hrt
  · simp only [List.mem_singleton] at hz; subst hz
    have : i = who.length := by simp only at hi; omega
    subst this
    simp only [List.getElem?_concat_length, Option.some.injEq] at hr
    subst hr
    rw [hr0 t ht] at hrt
    obtain ⟨e, he, h0⟩ := isPin_iff.1 hrt
    refine ⟨e, he, h0, ?_⟩
    rcases hs.pr t e he with h1 | h1
    · omega
    · exact h1.2.1
structure Tells (a : List Int) (who : List Row) (told : List Bool) : Prop where
  rng : ∀ x ∈ a, ∃ i : Nat, x = i ∧ i < who.length ∧ told[i]? = some false ∧ ∀ r, who[i]? = some r → ∀ t, t < 8 → r t = false
  nd : a.Nodup
theorem gone_mem {now : Int} {Z : List (Int × Int)} {x : Int} : x ∈ gone now Z ↔ ∃ z ∈ Z, z.2 ≤ now - 3 ∧ z.1 = x := by
  unfold gone
  simp only [List.mem_map, List.mem_filter, decide_eq_true_eq]
  constructor
  · rintro ⟨z, ⟨h1, h2⟩, h3⟩; exact ⟨z, h1, h2, h3⟩
  · rintro ⟨z, h1, h2, h3⟩; exact ⟨z, ⟨h1, h2⟩, h3⟩
theorem stay_mem {now : Int} {Z : List (Int × Int)} {z : Int × Int} : z ∈ stay now Z ↔ z ∈ Z ∧ ¬ z.2 ≤ now - 3 := by
  unfold stay
  simp [List.mem_filter]
theorem nodup_same {Z : List (Int × Int)} (h : (Z.map fun z => z.1).Nodup) {z z' : Int × Int} (hz : z ∈ Z) (hz' : z' ∈ Z) (e : z.1 = z'.1) : z = z' := by
  induction Z with
  | nil => cases hz
  | cons y Z ih =>
    rw [List.map_cons, List.nodup_cons] at h
    rcases List.mem_cons.1 hz with h1 | h1 <;> rcases List.mem_cons.1 hz' with h2 | h2
    · rw [h1, h2]
    · subst h1; exact absurd (List.mem_map.2 ⟨z', h2, e.symm⟩) h.1
    · subst h2; exact absurd (List.mem_map.2 ⟨z, h1, e⟩) h.1
    · exact ih h.2 h1 h2
theorem late_false {pin : List Int} {now : Int} (ha : pin.any (late now) = false) {t : Nat} {e : Int} (he : pin[t]? = some e) (h0 : 0 ≤ e) : e = now := by
  have := List.any_eq_false.1 ha e (List.mem_of_getElem? he)
  simpa [late, h0] using this
theorem Sf.told {S : ES} {Z : List (Int × Int)} {n : Nat} {told : List Bool} (h : Sf S Z n told) {now : Int} {i : Nat} (hi : i < 300) : (tellAll (gone now Z) told)[i]? = if (i : Int) ∈ gone now Z then some true else told[i]? := by
  refine tellAll_get _ (fun x hx => ?_) told i (by rw [h.tl]; exact hi)
  obtain ⟨z, hz, _, rfl⟩ := gone_mem.1 hx
  obtain ⟨j, hj, _⟩ := h.id z hz
  omega
theorem Sf.advance {S : ES} {Z : List (Int × Int)} {n : Nat} {told : List Bool} (h : Sf S Z n told) (ha : S.pin.any (late S.now) = false) :
    Sf ({ S with now := S.now + 1 }.put ((S.now + 1) % 3) []) (stay ((S.now : Int) + 1) Z) n (tellAll (gone ((S.now : Int) + 1) Z) told) := by
  have hwl := h.wl
  refine ⟨h.lk.advance, by rw [put_pin]; exact h.pn, fun t e he => ?_, by rw [tellAll_len]; exact h.tl, h.wl, fun z hz => ?_, ?_, fun i hi ht => ?_, fun i hi h3 => ?_⟩
  · rw [put_pin] at he
    rw [put_now]
    simp only at he ⊢
    rcases h.pr t e he with h1 | h1
    · exact .inl h1
    · have := late_false ha he h1.2.2
      right; omega
  · obtain ⟨h1, h2⟩ := stay_mem.1 hz
    obtain ⟨i, e1, e2, e3⟩ := h.id z h1
    refine ⟨i, e1, e2, ?_⟩
    rw [h.told (by omega), if_neg, e3]
    intro hg
    obtain ⟨z', hz', hg2, e4⟩ := gone_mem.1 hg
    have := nodup_same h.nd h1 hz' (by omega)
    subst this
    exact h2 hg2
  · unfold stay
    exact h.nd.sublist (List.filter_sublist.map _)
  · rw [h.told (by omega)] at ht
    split at ht
    · cases ht
    · rename_i hg
      obtain ⟨z, hz, e⟩ := List.mem_map.1 (h.al i hi ht)
      exact List.mem_map.2 ⟨z, stay_mem.2 ⟨hz, fun hle => hg (gone_mem.2 ⟨z, hz, hle, e⟩)⟩, e⟩
  · rw [h.told h3, if_neg, h.fr i hi h3]
    intro hg
    obtain ⟨z', hz', hg2, e4⟩ := gone_mem.1 hg
    obtain ⟨j, e1, e2, e3⟩ := h.id z' hz'
    omega
theorem Seen.advance {S : ES} {Z : List (Int × Int)} {who : List Row} (h : Seen S Z who) : Seen ({ S with now := S.now + 1 }.put ((S.now + 1) % 3) []) (stay ((S.now : Int) + 1) Z) who := by
  intro z hz i r t hi hr ht hrt
  rw [put_pin]
  exact h z (stay_mem.1 hz).1 i r t hi hr ht hrt
theorem Sf.tells {S : ES} {Z : List (Int × Int)} {who : List Row} {told : List Bool} (h : Sf S Z who.length told) (hs : Seen S Z who) (ha : S.pin.any (late S.now) = false) : Tells (gone ((S.now : Int) + 1) Z) who told := by
  refine ⟨fun x hx => ?_, ?_⟩
  · obtain ⟨z, hz, hle, rfl⟩ := gone_mem.1 hx
    obtain ⟨i, e1, e2, e3⟩ := h.id z hz
    refine ⟨i, e1, e2, e3, fun r hr t ht => ?_⟩
    cases hrt : r t with
    | false => rfl
    | true =>
      obtain ⟨e, he, h0, h1⟩ := hs z hz i r t e1 hr ht hrt
      have := late_false ha he h0
      omega
  · unfold gone
    exact h.nd.sublist (List.filter_sublist.map _)
end Go.Proofs.Ytgcojbgkenndhaa
