/- A bounded queue's slots, by its contents: plain laws. -/
import Derived.Test.YtdbgeahmhfocaaaGreatGBase
namespace Go.Proofs.YtdbgeahmhfocaaaGreat
set_option linter.unusedSimpArgs false
set_option linter.unusedVariables false
open Go Go.RowKit

/-- How far a slot lies from the next one that is got from. -/
def dist (G n j : Nat) : Nat := (j + n - G % n) % n
theorem mod_inj {G n d d' : Nat} (hd : d < n) (hd' : d' < n) (h : (G + d) % n = (G + d') % n) : d = d' := by
  have key : ∀ a b, a ≤ b → b < n → (G + a) % n = (G + b) % n → a = b := fun a b hab hb h => by
    have h1 := Nat.sub_mod_eq_zero_of_mod_eq h.symm
    have h2 : G + b - (G + a) = b - a := by omega
    rw [h2, Nat.mod_eq_of_lt (by omega)] at h1
    omega
  rcases Nat.le_total d d' with h1 | h1
  · exact key d d' h1 hd' h
  · exact (key d' d h1 hd h.symm).symm
theorem dist_lt {G n j : Nat} (hn : 0 < n) : dist G n j < n := Nat.mod_lt _ hn
theorem dist_spec {G n j : Nat} (hj : j < n) : (G + dist G n j) % n = j := by
  have hn : 0 < n := by omega
  have ha := Nat.mod_lt G hn
  unfold dist
  rw [Nat.add_mod_mod]
  have h1 : G + (j + n - G % n) = j + n * (G / n + 1) := by
    have := Nat.div_add_mod G n
    rw [Nat.mul_add]; omega
  rw [h1, Nat.add_mul_mod_self_left, Nat.mod_eq_of_lt hj]
theorem dist_uniq {G n j d : Nat} (hj : j < n) (hd : d < n) (h : (G + d) % n = j) : dist G n j = d :=
  mod_inj (dist_lt (by omega)) hd ((dist_spec hj).trans h.symm)
theorem dist_of {G n k : Nat} (hk : k < n) : dist G n ((G + k) % n) = k := dist_uniq (Nat.mod_lt _ (by omega)) hk rfl
theorem dist_full {G n : Nat} (hn : 0 < n) : dist G n ((G + n) % n) = 0 := dist_uniq (Nat.mod_lt _ hn) hn (by simp)
theorem dist_succ {G n j : Nat} (hj : j < n) : dist (G + 1) n j = if dist G n j = 0 then n - 1 else dist G n j - 1 := by
  have h0 := dist_spec (G := G) hj
  have hl := dist_lt (G := G) (j := j) (show 0 < n by omega)
  apply dist_uniq hj
  · split <;> omega
  · split
    · rename_i h; rw [h, Nat.add_zero] at h0
      have : G + 1 + (n - 1) = G + n := by omega
      rw [this, Nat.add_mod_right]; exact h0
    · have : G + 1 + (dist G n j - 1) = G + dist G n j := by omega
      rw [this]; exact h0

/-- A message. -/
structure Mg where
  topic : ByteArray
  pay : ByteArray
  kept : Bool
def m0 : Mg := ⟨⟨#[]⟩, ⟨#[]⟩, false⟩
def fM (x : Mg) : List Value := [.string x.topic, .string x.pay, .bool x.kept]
/-- What a slot holds: a number, and the sequence number. -/
def slotAt (L : List Mg) (G n j : Nat) : Mg × Int :=
  if dist G n j < L.length then (L.getD (dist G n j) m0, 2 * (G + dist G n j : Nat) + 1) else (m0, 2 * (G + dist G n j : Nat))
def slots (L : List Mg) (G n : Nat) : List (Mg × Int) := (List.range n).map (slotAt L G n)
def fSl (x : Mg × Int) : List Value := [.string x.1.topic, .string x.1.pay, .bool x.1.kept, .int .i64 x.2]
theorem fSl_len (x : Mg × Int) : (fSl x).length = 4 := rfl
theorem slots_len (L : List Mg) (G n : Nat) : (slots L G n).length = n := by simp [slots]
theorem slots_get {L : List Mg} {G n j : Nat} (hj : j < n) : (slots L G n)[j]? = some (slotAt L G n j) := by simp [slots, hj]
theorem slots_set {L L' : List Mg} {G G' n j : Nat} {x : Mg × Int} (hx : slotAt L' G' n j = x) (ho : ∀ i, i < n → i ≠ j → slotAt L' G' n i = slotAt L G n i) : (slots L G n).set j x = slots L' G' n := by
  apply List.ext_getElem?
  intro i
  by_cases hi : i < n
  · by_cases hij : i = j
    · subst hij
      rw [List.getElem?_set_self (by rw [slots_len]; exact hi), slots_get hi, hx]
    · rw [List.getElem?_set_ne (Ne.symm hij), slots_get hi, slots_get hi, ho i hi hij]
  · rw [List.getElem?_eq_none (by rw [List.length_set, slots_len]; omega), List.getElem?_eq_none (by rw [slots_len]; omega)]
theorem slot_put {L : List Mg} {G n : Nat} (hn : 0 < n) (hL : L.length ≤ n) : slotAt L G n ((G + L.length) % n) = if L.length < n then ((m0, 2 * ((G + L.length : Nat) : Int)) : Mg × Int) else (L.getD 0 m0, 2 * (G : Int) + 1) := by
  unfold slotAt
  by_cases h : L.length < n
  · rw [dist_of h, if_neg (by omega), if_pos h]
  · have : L.length = n := by omega
    rw [this, dist_full hn, if_pos hn, if_neg (by omega), Nat.add_zero]
theorem slot_get {L : List Mg} {G n : Nat} (hn : 0 < n) : slotAt L G n (G % n) = if L.length = 0 then ((m0, 2 * (G : Int)) : Mg × Int) else (L.getD 0 m0, 2 * (G : Int) + 1) := by
  have h0 := dist_of (G := G) (n := n) (k := 0) hn
  rw [Nat.add_zero] at h0
  unfold slotAt
  rw [h0]
  by_cases h : L.length = 0
  · rw [if_neg (by omega), if_pos h, Nat.add_zero]
  · rw [if_pos (by omega), if_neg h, Nat.add_zero]
theorem slots_put {L : List Mg} {G n : Nat} (hL : L.length < n) (x : Mg) : (slots L G n).set ((G + L.length) % n) (x, 2 * (G + L.length : Nat) + 1) = slots (L ++ [x]) G n := by
  refine slots_set ?_ fun i hi hne => ?_
  · unfold slotAt
    rw [dist_of hL, if_pos (by simp)]
    simp [List.getD]
  · unfold slotAt
    have hd : dist G n i ≠ L.length := fun h => hne (by rw [← h, dist_spec hi])
    by_cases h : dist G n i < L.length
    · rw [if_pos (by simp; omega), if_pos h]
      simp only [List.getD]
      rw [List.getElem?_append_left h]
    · rw [if_neg (by simp; omega), if_neg h]
theorem slots_take {y : Mg} {L : List Mg} {G n : Nat} (hL : (y :: L).length ≤ n) : (slots (y :: L) G n).set (G % n) (m0, 2 * (G + n : Nat)) = slots L (G + 1) n := by
  have hn : 0 < n := by simp at hL; omega
  have h0 := dist_of (G := G) (n := n) (k := 0) hn
  rw [Nat.add_zero] at h0
  refine slots_set ?_ fun i hi hne => ?_
  · unfold slotAt
    rw [dist_succ (Nat.mod_lt _ hn), h0, if_pos rfl, if_neg (by simp at hL; omega)]
    have : G + 1 + (n - 1) = G + n := by omega
    rw [this]
  · have hd : dist G n i ≠ 0 := fun h => hne (by rw [← dist_spec (G := G) hi, h, Nat.add_zero])
    unfold slotAt
    rw [dist_succ hi, if_neg hd]
    obtain ⟨k, hk⟩ := Nat.exists_eq_succ_of_ne_zero hd
    rw [hk]
    have e1 : G + 1 + (k.succ - 1) = G + k.succ := by omega
    have e2 : k.succ - 1 = k := by omega
    rw [e1, e2]
    by_cases h : k < L.length
    · rw [if_pos h, if_pos (by simp; omega)]; simp [List.getD]
    · rw [if_neg h, if_neg (by simp; omega)]
theorem slots_new (n : Nat) : slots [] 0 n = (List.range n).map fun (j : Nat) => ((m0, 2 * (j : Int)) : Mg × Int) := by
  apply List.map_congr_left
  intro j hj
  have := List.mem_range.1 hj
  unfold slotAt
  have : dist 0 n j = j := dist_uniq this this (by simp [Nat.mod_eq_of_lt this])
  simp [this]
end Go.Proofs.YtdbgeahmhfocaaaGreat
