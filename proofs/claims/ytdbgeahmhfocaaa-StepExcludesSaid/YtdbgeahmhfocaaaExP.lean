/- 'StepExcludes': what its threads do. -/
import Derived.Test.YtdbgeahmhfocaaaOneP
namespace Go.Proofs.Ytdbgeahmhfocaaa
set_option linter.unusedSimpArgs false
set_option linter.unusedVariables false
set_option maxRecDepth 100000
open Go Go.RowKit
structure XU where
  l : Nat → Lk
  cs : Nat → Int × Int
  wi : Nat → Bool
  bad : Bool
  dn : Int
def XU.try (u : XU) (uo i : Int) : XU := if 0 ≤ i ∧ i < (8 : Nat) then { u with l := updL u.l i.toNat (tryT (u.l i.toNat) uo) } else u
def XU.free (u : XU) (uo i : Int) : XU := if 0 ≤ i ∧ i < (8 : Nat) then { u with l := updL u.l i.toNat (freeT (u.l i.toNat) uo) } else u
def XU.load (u : XU) (t : Nat) : XU := { u with cs := updL u.cs t ((u.cs t).1, IntKind.i64.wrap ((u.cs t).2 + 1)) }
def XU.cas (u : XU) (t : Nat) (x y : Int) : XU := { u with cs := updL u.cs t (if (u.cs t).1 = x then y else (u.cs t).1, IntKind.i64.wrap ((u.cs t).2 + 1)) }
def XU.enter (u : XU) (n : Nat) (ods : Nat → List Int) (t : Nat) : XU := { u with bad := u.bad || (List.range n).any fun k => u.wi k && commonB (ods t) (ods k), wi := updL u.wi t true }
def XU.exit (u : XU) (t : Nat) (ok : Bool) : XU := { u with bad := u.bad || !ok, wi := updL u.wi t false, dn := IntKind.i64.wrap (u.dn + 1) }
def exX (n : Nat) (ods : Nat → List Int) (t : Nat) (u : XU) : Act → XU × List Act × Bool
  | .lk i => (u.try ((t : Int) + 1) i, [], decide (0 ≤ i ∧ i < (8 : Nat)) && tryB (u.l i.toNat).1 ((t : Int) + 1))
  | .fr i => (u.free ((t : Int) + 1) i, [], true)
  | .ld => (u.load t, [.cs (u.cs t).1], true)
  | .cs x => (u.cas t x (IntKind.i64.wrap (x + 1)), [.ef (if (u.cs t).1 = x then 1 else 2)], true)
  | .ef 0 => (u.enter n ods t, [], true)
  | .ef 1 => (u.exit t true, [], true)
  | .ef _ => (u.exit t false, [], true)
def progX (os : List Int) : Nat → List Act
  | 0 => []
  | r + 1 => os.map .lk ++ .ef 0 :: .ld :: (os.map .fr ++ progX os r)
/-- Where a thread is: what it still does, what it holds, is it within, how often it will be. -/
inductive Ph (os : List Int) (c : Int) : List Act → List Int → Bool → Nat → Prop
  | lks (r k : Nat) : k ≤ os.length → Ph os c ((os.drop k).map .lk ++ .ef 0 :: .ld :: (os.map .fr ++ progX os r)) (os.take k) false (r + 1)
  | ld (r : Nat) : Ph os c (.ld :: (os.map .fr ++ progX os r)) os true (r + 1)
  | cas (r : Nat) : Ph os c (.cs c :: (os.map .fr ++ progX os r)) os true (r + 1)
  | ex (r : Nat) : Ph os c (.ef 1 :: (os.map .fr ++ progX os r)) os true (r + 1)
  | frs (r k : Nat) : k ≤ os.length → Ph os c ((os.drop k).map .fr ++ progX os r) (os.drop k) false r
def sumN (f : Nat → Nat) : Nat → Nat
  | 0 => 0
  | n + 1 => sumN f n + f n
theorem sumN_congr {f g : Nat → Nat} : ∀ {n : Nat}, (∀ t, t < n → f t = g t) → sumN f n = sumN g n
  | 0, _ => rfl
  | n + 1, h => by rw [sumN, sumN, sumN_congr fun t ht => h t (by omega), h n (by omega)]
theorem sumN_upd {f : Nat → Nat} {t v : Nat} : ∀ {n : Nat}, t < n → sumN (updL f t v) n + f t = sumN f n + v
  | 0, h => by omega
  | n + 1, h => by
    rw [sumN, sumN]
    by_cases e : t = n
    · subst e
      have h1 : sumN (updL f t v) t = sumN f t := sumN_congr fun j hj => by unfold updL; rw [if_neg (by omega)]
      have h2 : updL f t v t = v := by unfold updL; rw [if_pos rfl]
      rw [h1, h2]; omega
    · have h1 := sumN_upd (f := f) (v := v) (show t < n by omega)
      have h2 : updL f t v n = f n := by unfold updL; rw [if_neg (fun e' => e e'.symm)]
      rw [h2]; omega
theorem sumN_zero {f : Nat → Nat} : ∀ {n : Nat}, (∀ t, t < n → f t = 0) → sumN f n = 0
  | 0, _ => rfl
  | n + 1, h => by rw [sumN, sumN_zero fun t ht => h t (by omega), h n (by omega)]
theorem sumN_le {f : Nat → Nat} {m : Nat} : ∀ {n : Nat}, (∀ t, t < n → f t ≤ m) → sumN f n ≤ n * m
  | 0, _ => by simp [sumN]
  | n + 1, h => by
    have h1 := sumN_le (n := n) fun t ht => h t (by omega)
    have h2 := h n (by omega)
    rw [sumN, Nat.add_mul]; omega
theorem sumN_const (m : Nat) : ∀ n, sumN (fun _ => m) n = m * n
  | 0 => by simp [sumN]
  | n + 1 => by rw [sumN, sumN_const m n, Nat.mul_succ]
def wA : Act → Nat
  | .ld => 3
  | .cs _ => 2
  | _ => 1
def wT : List Act → Nat
  | [] => 0
  | a :: r => wA a + wT r
theorem wT_app (a b : List Act) : wT (a ++ b) = wT a + wT b := by
  induction a with
  | nil => simp [wT]
  | cons x a ih => simp only [List.cons_append, wT, ih]; omega
theorem wT_lk (os : List Int) : wT (os.map .lk) = os.length := by
  induction os with
  | nil => rfl
  | cons x a ih => simp only [List.map_cons, wT, wA, ih, List.length_cons]; omega
theorem wT_fr (os : List Int) : wT (os.map .fr) = os.length := by
  induction os with
  | nil => rfl
  | cons x a ih => simp only [List.map_cons, wT, wA, ih, List.length_cons]; omega
theorem wT_prog (os : List Int) : ∀ r, wT (progX os r) = (2 * os.length + 4) * r
  | 0 => rfl
  | r + 1 => by
    rw [progX, wT_app, wT_lk, wT, wT, wT_app, wT_fr, wT_prog os r, Nat.mul_add]
    simp only [wA]; omega
def muX (n : Nat) (x : XU × (Nat → List Act)) : Nat := sumN (fun t => wT (x.2 t)) n
structure GdX (n : Nat) (ods : Nat → List Int) (N : Nat) (x : XU × (Nat → List Act)) (hd : Nat → List Int) (e : Nat → Nat) : Prop where
  ph : ∀ t, t < n → Ph (ods t) (x.1.cs t).1 (x.2 t) (hd t) (x.1.wi t) (e t)
  own : ∀ t, t < n → ∀ i : Nat, i < 8 → (i : Int) ∈ hd t → (x.1.l i).1 = (t : Int) + 1
  held : ∀ i : Nat, i < 8 → (x.1.l i).1 ≠ 0 → ∃ t, t < n ∧ (x.1.l i).1 = (t : Int) + 1 ∧ (i : Int) ∈ hd t
  bad : x.1.bad = false
  dn : x.1.dn + (sumN e n : Nat) = (N : Nat)
  dn0 : 0 ≤ x.1.dn
section
variable {n : Nat} {ods : Nat → List Int} {N : Nat}
structure OdX (n : Nat) (ods : Nat → List Int) : Prop where
  r : ∀ t, ∀ x ∈ ods t, 0 ≤ x ∧ x < 8
  s : ∀ t, (ods t).Pairwise (fun a b => a < b)
theorem drop_cons {os : List Int} {k : Nat} {x : Int} (h : os[k]? = some x) : os.drop k = x :: os.drop (k + 1) := by
  obtain ⟨hl, he⟩ := List.getElem?_eq_some_iff.1 h
  rw [List.drop_eq_getElem_cons hl, he]
theorem take_succ' {os : List Int} {k : Nat} {x : Int} (h : os[k]? = some x) : os.take (k + 1) = os.take k ++ [x] := by
  rw [List.take_add_one, h]; rfl
/-- A thread's first action. -/
theorem ph_cases {os : List Int} {c : Int} {T : List Act} {hd : List Int} {w : Bool} {e : Nat} (h : Ph os c T hd w e) (hT : T ≠ []) :
    (∃ r k x, os[k]? = some x ∧ T = .lk x :: ((os.drop (k + 1)).map .lk ++ .ef 0 :: .ld :: (os.map .fr ++ progX os r)) ∧ hd = os.take k ∧ w = false ∧ e = r + 1) ∨
    (∃ r, T = .ef 0 :: .ld :: (os.map .fr ++ progX os r) ∧ hd = os ∧ w = false ∧ e = r + 1) ∨
    (∃ r, T = .ld :: (os.map .fr ++ progX os r) ∧ hd = os ∧ w = true ∧ e = r + 1) ∨
    (∃ r, T = .cs c :: (os.map .fr ++ progX os r) ∧ hd = os ∧ w = true ∧ e = r + 1) ∨
    (∃ r, T = .ef 1 :: (os.map .fr ++ progX os r) ∧ hd = os ∧ w = true ∧ e = r + 1) ∨
    (∃ r k x, os[k]? = some x ∧ T = .fr x :: ((os.drop (k + 1)).map .fr ++ progX os r) ∧ hd = os.drop k ∧ w = false ∧ e = r) := by
  have hl : ∀ (r k : Nat), k ≤ os.length → ∀ T', T' = (os.drop k).map .lk ++ .ef 0 :: .ld :: (os.map .fr ++ progX os r) →
      (∃ x, os[k]? = some x ∧ T' = .lk x :: ((os.drop (k + 1)).map .lk ++ .ef 0 :: .ld :: (os.map .fr ++ progX os r))) ∨ (k = os.length ∧ T' = .ef 0 :: .ld :: (os.map .fr ++ progX os r)) := by
    intro r k hk T' e'
    rcases Nat.lt_or_ge k os.length with hlt | hge
    · have hx := List.getElem?_eq_getElem hlt
      refine .inl ⟨_, hx, ?_⟩
      rw [e', drop_cons hx]; rfl
    · have : k = os.length := by omega
      subst this
      exact .inr ⟨rfl, by rw [e', List.drop_length]; rfl⟩
  cases h with
  | lks r k hk =>
    rcases hl r k hk _ rfl with ⟨x, hx, e1⟩ | ⟨rfl, e1⟩
    · exact .inl ⟨r, k, x, hx, e1, rfl, rfl, rfl⟩
    · exact .inr (.inl ⟨r, e1, List.take_length, rfl, rfl⟩)
  | ld r => exact .inr (.inr (.inl ⟨r, rfl, rfl, rfl, rfl⟩))
  | cas r => exact .inr (.inr (.inr (.inl ⟨r, rfl, rfl, rfl, rfl⟩)))
  | ex r => exact .inr (.inr (.inr (.inr (.inl ⟨r, rfl, rfl, rfl, rfl⟩))))
  | frs r k hk =>
    rcases Nat.lt_or_ge k os.length with hlt | hge
    · have hx := List.getElem?_eq_getElem hlt
      refine .inr (.inr (.inr (.inr (.inr ⟨_, k, _, hx, ?_, rfl, rfl, rfl⟩))))
      rw [drop_cons hx]; rfl
    · have : k = os.length := by omega
      subst this
      rw [List.drop_length] at hT ⊢
      cases e with
      | zero => exact absurd rfl hT
      | succ r =>
        have e0 : List.map Act.fr ([] : List Int) ++ progX os (r + 1) = (os.drop 0).map .lk ++ .ef 0 :: .ld :: (os.map .fr ++ progX os r) := rfl
        rw [e0]
        rcases hl r 0 (by omega) _ rfl with ⟨x, hx, e1⟩ | ⟨h0, e1⟩
        · exact .inl ⟨r, 0, x, hx, e1, rfl, rfl, rfl⟩
        · have : os = [] := List.length_eq_zero_iff.1 h0.symm
          exact .inr (.inl ⟨r, e1, this.symm, rfl, rfl⟩)
theorem ph_empty {os : List Int} {c : Int} {hd : List Int} {w : Bool} {e : Nat} (h : Ph os c [] hd w e) : hd = [] ∧ e = 0 ∧ w = false := by
  generalize hT : ([] : List Act) = T at h
  cases h with
  | lks r k hk => simp at hT
  | ld r => cases hT
  | cas r => cases hT
  | ex r => cases hT
  | frs r k hk =>
    have h1 := (List.append_eq_nil_iff.1 hT.symm)
    refine ⟨by simpa using h1.1, ?_, rfl⟩
    cases e with
    | zero => rfl
    | succ r => have := h1.2; simp [progX] at this
theorem ph_within {os : List Int} {c : Int} {T : List Act} {hd : List Int} {e : Nat} (h : Ph os c T hd true e) : hd = os := by
  cases h <;> rfl
theorem nat_int {x : Int} (h : 0 ≤ x ∧ x < 8) : x.toNat < 8 ∧ ((x.toNat : Nat) : Int) = x := by omega
theorem try_own {u : XU} {t : Nat} {x : Int} (hx : 0 ≤ x ∧ x < 8) (h0 : (u.l x.toNat).1 = 0) : ∃ p q, u.try ((t : Int) + 1) x = { u with l := updL u.l x.toNat ((t : Int) + 1, p, q) } := by
  refine ⟨IntKind.i64.wrap ((u.l x.toNat).2.1 + 1), IntKind.i64.wrap ((u.l x.toNat).2.2 + 1), ?_⟩
  unfold XU.try tryT
  rw [if_pos ⟨hx.1, by omega⟩, if_neg (by omega), if_pos h0]
theorem try_no {u : XU} {t : Nat} {x : Int} (hx : 0 ≤ x ∧ x < 8) (h0 : (u.l x.toNat).1 ≠ 0) : ∃ l, u.try ((t : Int) + 1) x = { u with l := l } ∧ ∀ i, (l i).1 = (u.l i).1 := by
  refine ⟨_, by unfold XU.try tryT; rw [if_pos ⟨hx.1, by omega⟩, if_neg (by omega), if_neg h0], fun i => ?_⟩
  unfold updL
  split
  · rename_i e; subst e; rfl
  · rfl
theorem free_own {u : XU} {t : Nat} {x : Int} (hx : 0 ≤ x ∧ x < 8) (h0 : (u.l x.toNat).1 = (t : Int) + 1) : ∃ p q, u.free ((t : Int) + 1) x = { u with l := updL u.l x.toNat (0, p, q) } := by
  refine ⟨IntKind.i64.wrap ((u.l x.toNat).2.1 + 1), (u.l x.toNat).2.2, ?_⟩
  unfold XU.free freeT
  rw [if_pos ⟨hx.1, by omega⟩, if_neg (by omega), if_pos h0]
theorem updL_eq {α : Type} {f : Nat → α} {t : Nat} {v : α} : updL f t v t = v := by unfold updL; rw [if_pos rfl]
theorem updL_ne {α : Type} {f : Nat → α} {t j : Nat} {v : α} (h : j ≠ t) : updL f t v j = f j := by unfold updL; rw [if_neg h]
theorem gd_step (ho : OdX n ods) (hN : N ≤ 100000) {x : XU × (Nat → List Act)} {t : Nat} {hd : Nat → List Int} {e : Nat → Nat} (hg : GdX n ods N x hd e) (ht : t < n) {a : Act} {r : List Act} (hT : x.2 t = a :: r) :
    ((exX n ods t x.1 a).2.2 = true → (∃ hd' e', GdX n ods N ((exX n ods t x.1 a).1, updL x.2 t ((exX n ods t x.1 a).2.1 ++ r)) hd' e') ∧ wT ((exX n ods t x.1 a).2.1 ++ r) + 1 = wT (a :: r)) ∧
    ((exX n ods t x.1 a).2.2 = false → GdX n ods N ((exX n ods t x.1 a).1, x.2) hd e ∧ ∀ i, ((exX n ods t x.1 a).1.l i).1 = (x.1.l i).1) := by
  have hp := hg.ph t ht
  rw [hT] at hp
  have ph2 : ∀ (u : XU) (T : List Act) (hd' : Nat → List Int) (e' : Nat → Nat), (∀ j, j ≠ t → u.cs j = x.1.cs j ∧ u.wi j = x.1.wi j ∧ hd' j = hd j ∧ e' j = e j) → Ph (ods t) (u.cs t).1 T (hd' t) (u.wi t) (e' t) →
      ∀ j, j < n → Ph (ods j) (u.cs j).1 (updL x.2 t T j) (hd' j) (u.wi j) (e' j) := by
    intro u T hd' e' h1 h2 j hj
    by_cases ej : j = t
    · subst ej; rw [updL_eq]; exact h2
    · obtain ⟨a1, a2, a3, a4⟩ := h1 j ej
      rw [updL_ne ej, a1, a2, a3, a4]; exact hg.ph j hj
  rcases ph_cases hp (by simp) with ⟨r', k, y, hy, e1, e2, e3, e4⟩ | ⟨r', e1, e2, e3, e4⟩ | ⟨r', e1, e2, e3, e4⟩ | ⟨r', e1, e2, e3, e4⟩ | ⟨r', e1, e2, e3, e4⟩ | ⟨r', k, y, hy, e1, e2, e3, e4⟩
  · injection e1 with e1 e1'
    subst e1 e1'
    have hym := List.mem_of_getElem? hy
    have hyr := ho.r t y hym
    obtain ⟨n1, n2⟩ := nat_int hyr
    have hk : k < (ods t).length := (List.getElem?_eq_some_iff.1 hy).1
    by_cases h0 : (x.1.l y.toNat).1 = 0
    · obtain ⟨p, q, hq⟩ := try_own (t := t) hyr h0
      have hok : (exX n ods t x.1 (.lk y)).2.2 = true := by
        show (decide (0 ≤ y ∧ y < (8 : Nat)) && tryB (x.1.l y.toNat).1 ((t : Int) + 1)) = true
        unfold tryB
        rw [if_neg (by omega), h0]; simp; omega
      refine ⟨fun _ => ⟨⟨updL hd t ((ods t).take (k + 1)), e, ?_⟩, ?_⟩, fun h => by rw [hok] at h; cases h⟩
      · show GdX n ods N (x.1.try ((t : Int) + 1) y, updL x.2 t ([] ++ _)) _ _
        rw [hq]
        refine ⟨ph2 _ _ _ _ (fun j hj => ⟨rfl, rfl, updL_ne hj, rfl⟩) ?_, fun j hj i hi hm => ?_, fun i hi hne => ?_, hg.bad, hg.dn, hg.dn0⟩
        · show Ph (ods t) (x.1.cs t).1 _ _ (x.1.wi t) _
          rw [updL_eq, e3, e4]
          exact .lks r' (k + 1) (by omega)
        · show (updL x.1.l y.toNat _ i).1 = _
          by_cases ei : i = y.toNat
          · subst ei
            rw [updL_eq]
            by_cases ej : j = t
            · subst ej; rfl
            · rw [updL_ne ej] at hm
              have := hg.own j hj _ hi hm
              rw [h0] at this; omega
          · rw [updL_ne ei]
            by_cases ej : j = t
            · subst ej
              rw [updL_eq, take_succ' hy] at hm
              rcases List.mem_append.1 hm with hm | hm
              · exact hg.own j hj i hi (by rw [e2]; exact hm)
              · simp at hm; omega
            · rw [updL_ne ej] at hm
              exact hg.own j hj i hi hm
        · have hne : (updL x.1.l y.toNat _ i).1 ≠ 0 := hne
          show ∃ j, j < n ∧ (updL x.1.l y.toNat _ i).1 = (j : Int) + 1 ∧ _
          by_cases ei : i = y.toNat
          · subst ei
            exact ⟨t, ht, by rw [updL_eq], by rw [updL_eq, take_succ' hy, n2]; simp⟩
          · rw [updL_ne ei] at hne ⊢
            obtain ⟨j, hj, h1, h2⟩ := hg.held i hi hne
            refine ⟨j, hj, h1, ?_⟩
            by_cases ej : j = t
            · subst ej
              rw [updL_eq, take_succ' hy]
              rw [e2] at h2
              exact List.mem_append_left _ h2
            · rw [updL_ne ej]; exact h2
      · show wT ([] ++ _) + 1 = _
        simp only [List.nil_append, wT, wA]; omega
    · obtain ⟨l, hq, hl⟩ := try_no (t := t) hyr h0
      have hok : (exX n ods t x.1 (.lk y)).2.2 = false := by
        show (decide (0 ≤ y ∧ y < (8 : Nat)) && tryB (x.1.l y.toNat).1 ((t : Int) + 1)) = false
        unfold tryB
        rw [if_neg (by omega)]; simp [h0]
      refine ⟨fun h => (by rw [hok] at h; cases h), fun _ => ?_⟩
      show GdX n ods N (x.1.try ((t : Int) + 1) y, x.2) hd e ∧ ∀ i, ((x.1.try ((t : Int) + 1) y).l i).1 = _
      rw [hq]
      refine ⟨⟨hg.ph, fun j hj i hi hm => (hl i).trans (hg.own j hj i hi hm), fun i hi hne => ?_, hg.bad, hg.dn, hg.dn0⟩, hl⟩
      have hne : (l i).1 ≠ 0 := hne
      rw [hl] at hne
      obtain ⟨j, hj, h1, h2⟩ := hg.held i hi hne
      exact ⟨j, hj, (hl i).trans h1, h2⟩
  · injection e1 with e1 e1'
    subst e1 e1'
    have hb : ((List.range n).any fun k => x.1.wi k && commonB (ods t) (ods k)) = false := by
      rw [List.any_eq_false]
      intro k hk
      have hkn := List.mem_range.1 hk
      cases hw : x.1.wi k with
      | false => simp
      | true =>
        simp only [Bool.true_and, Bool.not_eq_true]
        cases hc : commonB (ods t) (ods k) with
        | false => rfl
        | true =>
          unfold commonB at hc
          obtain ⟨y, hy, hy'⟩ := List.any_eq_true.1 hc
          obtain ⟨z, hz, hz'⟩ := List.any_eq_true.1 hy'
          have : y = z := by simpa using hz'
          subst this
          obtain ⟨n1, n2⟩ := nat_int (ho.r t y hy)
          have hpk := hg.ph k hkn
          rw [hw] at hpk
          have h1 := hg.own t ht y.toNat n1 (by rw [n2, e2]; exact hy)
          have h2 := hg.own k hkn y.toNat n1 (by rw [n2, ph_within hpk]; exact hz)
          have : k = t := by omega
          subst this
          rw [hw] at e3; cases e3
    refine ⟨fun _ => ⟨⟨hd, e, ?_⟩, ?_⟩, fun h => by cases h⟩
    · show GdX n ods N (x.1.enter n ods t, updL x.2 t ([] ++ _)) _ _
      refine ⟨ph2 _ _ _ _ (fun j hj => ⟨rfl, updL_ne hj, rfl, rfl⟩) ?_, hg.own, hg.held, ?_, hg.dn, hg.dn0⟩
      · show Ph (ods t) (x.1.cs t).1 _ _ (updL x.1.wi t true t) _
        rw [updL_eq, e2, e4]
        exact .ld r'
      · show (x.1.bad || _) = false
        rw [hg.bad, hb]; rfl
    · show wT ([] ++ _) + 1 = _
      simp only [List.nil_append, wT, wA]; omega
  · injection e1 with e1 e1'
    subst e1 e1'
    refine ⟨fun _ => ⟨⟨hd, e, ?_⟩, ?_⟩, fun h => by cases h⟩
    · show GdX n ods N (x.1.load t, updL x.2 t ([.cs (x.1.cs t).1] ++ _)) _ _
      refine ⟨ph2 _ _ _ _ (fun j hj => ⟨updL_ne hj, rfl, rfl, rfl⟩) ?_, hg.own, hg.held, hg.bad, hg.dn, hg.dn0⟩
      show Ph (ods t) (updL x.1.cs t _ t).1 _ _ (x.1.wi t) _
      rw [updL_eq, e2, e3, e4]
      exact .cas r'
    · show wT ([.cs (x.1.cs t).1] ++ _) + 1 = _
      simp only [List.cons_append, List.nil_append, wT, wA]; omega
  · injection e1 with e1 e1'
    subst e1 e1'
    refine ⟨fun _ => ⟨⟨hd, e, ?_⟩, ?_⟩, fun h => by cases h⟩
    · show GdX n ods N (x.1.cas t (x.1.cs t).1 _, updL x.2 t ([.ef (if (x.1.cs t).1 = (x.1.cs t).1 then 1 else 2)] ++ _)) _ _
      rw [if_pos (rfl : (x.1.cs t).1 = (x.1.cs t).1)]
      refine ⟨ph2 _ _ _ _ (fun j hj => ⟨updL_ne hj, rfl, rfl, rfl⟩) ?_, hg.own, hg.held, hg.bad, hg.dn, hg.dn0⟩
      show Ph (ods t) _ _ _ (x.1.wi t) _
      rw [e2, e3, e4]
      exact .ex r'
    · show wT ([.ef _] ++ _) + 1 = _
      rw [if_pos rfl]
      simp only [List.cons_append, List.nil_append, wT, wA]; omega
  · injection e1 with e1 e1'
    subst e1 e1'
    have hs := sumN_upd (f := e) (v := r') ht
    have hdn := hg.dn
    have hd0 := hg.dn0
    refine ⟨fun _ => ⟨⟨hd, updL e t r', ?_⟩, ?_⟩, fun h => by cases h⟩
    · show GdX n ods N (x.1.exit t true, updL x.2 t ([] ++ _)) _ _
      have hw : IntKind.i64.wrap (x.1.dn + 1) = x.1.dn + 1 := wrap_i64 (by omega)
      refine ⟨ph2 _ _ _ _ (fun j hj => ⟨rfl, updL_ne hj, rfl, updL_ne hj⟩) ?_, hg.own, hg.held, ?_, ?_, ?_⟩
      · show Ph (ods t) (x.1.cs t).1 _ _ (updL x.1.wi t false t) _
        rw [updL_eq, updL_eq, e2]
        exact .frs r' 0 (by omega)
      · show (x.1.bad || !true) = false
        rw [hg.bad]; rfl
      · show IntKind.i64.wrap (x.1.dn + 1) + _ = _
        rw [hw]; omega
      · show 0 ≤ IntKind.i64.wrap (x.1.dn + 1)
        rw [hw]; omega
    · show wT ([] ++ _) + 1 = _
      simp only [List.nil_append, wT, wA]; omega
  · injection e1 with e1 e1'
    subst e1 e1'
    have hym := List.mem_of_getElem? hy
    have hyr := ho.r t y hym
    obtain ⟨n1, n2⟩ := nat_int hyr
    have hk : k < (ods t).length := (List.getElem?_eq_some_iff.1 hy).1
    have hdk := drop_cons hy
    have hown := hg.own t ht y.toNat n1 (by rw [n2, e2, hdk]; simp)
    obtain ⟨p, q, hq⟩ := free_own (t := t) hyr hown
    have hnd : y ∉ (ods t).drop (k + 1) := fun hm => by
      have h1 : ((ods t).drop k).Pairwise (fun a b => a < b) := (ho.s t).sublist (List.drop_sublist k _)
      rw [hdk, List.pairwise_cons] at h1
      have := h1.1 y hm
      omega
    refine ⟨fun _ => ⟨⟨updL hd t ((ods t).drop (k + 1)), e, ?_⟩, ?_⟩, fun h => by cases h⟩
    · show GdX n ods N (x.1.free ((t : Int) + 1) y, updL x.2 t ([] ++ _)) _ _
      rw [hq]
      refine ⟨ph2 _ _ _ _ (fun j hj => ⟨rfl, rfl, updL_ne hj, rfl⟩) ?_, fun j hj i hi hm => ?_, fun i hi hne => ?_, hg.bad, hg.dn, hg.dn0⟩
      · show Ph (ods t) (x.1.cs t).1 _ _ (x.1.wi t) _
        rw [updL_eq, e3, e4]
        exact .frs r' (k + 1) (by omega)
      · show (updL x.1.l y.toNat _ i).1 = _
        by_cases ei : i = y.toNat
        · subst ei
          exfalso
          by_cases ej : j = t
          · subst ej
            rw [updL_eq, n2] at hm
            exact hnd hm
          · rw [updL_ne ej] at hm
            have := hg.own j hj _ hi hm
            omega
        · rw [updL_ne ei]
          by_cases ej : j = t
          · subst ej
            rw [updL_eq] at hm
            exact hg.own j hj i hi (by rw [e2, hdk]; exact List.mem_cons_of_mem _ hm)
          · rw [updL_ne ej] at hm
            exact hg.own j hj i hi hm
      · have hne : (updL x.1.l y.toNat _ i).1 ≠ 0 := hne
        show ∃ j, j < n ∧ (updL x.1.l y.toNat _ i).1 = (j : Int) + 1 ∧ _
        by_cases ei : i = y.toNat
        · subst ei; rw [updL_eq] at hne; exact absurd rfl hne
        · rw [updL_ne ei] at hne ⊢
          obtain ⟨j, hj, h1, h2⟩ := hg.held i hi hne
          refine ⟨j, hj, h1, ?_⟩
          by_cases ej : j = t
          · subst ej
            rw [updL_eq]
            rw [e2, hdk] at h2
            rcases List.mem_cons.1 h2 with h2 | h2
            · omega
            · exact h2
          · rw [updL_ne ej]; exact h2
    · show wT ([] ++ _) + 1 = _
      simp only [List.nil_append, wT, wA]; omega
theorem gd_prog (ho : OdX n ods) {x : XU × (Nat → List Act)} {hd : Nat → List Int} {e : Nat → Nat} (hg : GdX n ods N x hd e) : ∀ (m t : Nat), t < n → x.2 t ≠ [] → (∀ y r, x.2 t = .lk y :: r → 8 ≤ y + m) →
    ∃ s a r, s < n ∧ x.2 s = a :: r ∧ (exX n ods s x.1 a).2.2 = true := by
  intro m
  induction m with
  | zero =>
    intro t ht hT hm
    rcases ph_cases (hg.ph t ht) hT with ⟨r', k, y, hy, e1, e2, e3, e4⟩ | ⟨r', e1, _⟩ | ⟨r', e1, _⟩ | ⟨r', e1, _⟩ | ⟨r', e1, _⟩ | ⟨r', k, y, hy, e1, _⟩
    · have := ho.r t y (List.mem_of_getElem? hy)
      have := hm _ _ e1
      omega
    · exact ⟨t, _, _, ht, e1, rfl⟩
    · exact ⟨t, _, _, ht, e1, rfl⟩
    · exact ⟨t, _, _, ht, e1, rfl⟩
    · exact ⟨t, _, _, ht, e1, rfl⟩
    · exact ⟨t, _, _, ht, e1, rfl⟩
  | succ m ih =>
    intro t ht hT hm
    rcases ph_cases (hg.ph t ht) hT with ⟨r', k, y, hy, e1, e2, e3, e4⟩ | ⟨r', e1, _⟩ | ⟨r', e1, _⟩ | ⟨r', e1, _⟩ | ⟨r', e1, _⟩ | ⟨r', k, y, hy, e1, _⟩
    · have hyr := ho.r t y (List.mem_of_getElem? hy)
      obtain ⟨n1, n2⟩ := nat_int hyr
      by_cases h0 : (x.1.l y.toNat).1 = 0
      · refine ⟨t, _, _, ht, e1, ?_⟩
        show (decide (0 ≤ y ∧ y < (8 : Nat)) && tryB (x.1.l y.toNat).1 ((t : Int) + 1)) = true
        unfold tryB
        rw [if_neg (by omega), h0]; simp; omega
      · obtain ⟨s, hs, h1, h2⟩ := hg.held y.toNat n1 h0
        rw [n2] at h2
        have hTs : x.2 s ≠ [] := fun hT0 => by
          have hp := hg.ph s hs
          rw [hT0] at hp
          rw [(ph_empty hp).1] at h2; cases h2
        refine ih s hs hTs fun y' r2 hT2 => ?_
        have hlt : y < y' := by
          rcases ph_cases (hg.ph s hs) hTs with ⟨r', k', z, hz, f1, f2, _⟩ | ⟨r', f1, _⟩ | ⟨r', f1, _⟩ | ⟨r', f1, _⟩ | ⟨r', f1, _⟩ | ⟨r', k', z, hz, f1, _⟩
          · rw [hT2] at f1
            injection f1 with f1 _
            injection f1 with f1
            subst f1
            rw [f2] at h2
            have h3 : ((ods s).take (k' + 1)).Pairwise (fun a b => a < b) := (ho.s s).sublist (List.take_sublist _ _)
            rw [take_succ' hz, List.pairwise_append] at h3
            exact h3.2.2 y h2 y' (by simp)
          · rw [hT2] at f1; cases f1
          · rw [hT2] at f1; cases f1
          · rw [hT2] at f1; cases f1
          · rw [hT2] at f1; cases f1
          · rw [hT2] at f1; cases f1
        have := hm _ _ e1
        omega
    · exact ⟨t, _, _, ht, e1, rfl⟩
    · exact ⟨t, _, _, ht, e1, rfl⟩
    · exact ⟨t, _, _, ht, e1, rfl⟩
    · exact ⟨t, _, _, ht, e1, rfl⟩
    · exact ⟨t, _, _, ht, e1, rfl⟩
end
section
variable {B : World} {n : Nat} {ods : Nat → List Int} {N : Nat} {H : XU → HF}
abbrev xL (n : Nat) (ods : Nat → List Int) (H : XU → HF) : Lg B := hLg XU Act (exX n ods) H
theorem ex_ok {u u' : XU} (h : ∀ i, (u'.l i).1 = (u.l i).1) (j : Nat) (a : Act) : (exX n ods j u' a).2.2 = (exX n ods j u a).2.2 := by
  cases a with
  | lk i => show (decide _ && tryB (u'.l i.toNat).1 _) = (decide _ && tryB (u.l i.toNat).1 _); rw [h]
  | fr i => rfl
  | ld => rfl
  | cs x => rfl
  | ef k =>
    match k with
    | 0 => rfl
    | 1 => rfl
    | k + 2 => rfl
theorem ex_prg (ho : OdX n ods) (hN : N ≤ 100000) : Prg (lgSys (xL (B := B) n ods H) n) (fun x => ∃ hd e, GdX n ods N x hd e) (muX n) := by
  have tr : ∀ (x : XU × (Nat → List Act)) (t : Nat) (a : Act) (r : List Act), x.2 t = a :: r → lgTr (L := xL (B := B) n ods H) x t = (((exX n ods t x.1 a).1, if (exX n ods t x.1 a).2.2 then updL x.2 t ((exX n ods t x.1 a).2.1 ++ r) else x.2), (exX n ods t x.1 a).2.2) := by
    intro x t a r hT
    unfold lgTr
    rw [hT]
  have live : ∀ {x : XU × (Nat → List Act)} {t : Nat}, (lgSys (xL (B := B) n ods H) n).live x t = true → ∃ a r, x.2 t = a :: r := fun {x t} hl => by
    have hl : (!(x.2 t).isEmpty) = true := hl
    cases h : x.2 t with
    | nil => rw [h] at hl; cases hl
    | cons a r => exact ⟨a, r, rfl⟩
  refine ⟨fun {x t} hg ht hl => ?_, fun {x t} hg ht hl hok => ?_, fun {x t} hg ht hl hno => ?_, fun {x} hg hl => ?_, fun {x} hg hl => ?_⟩
  · obtain ⟨a, r, hT⟩ := live hl
    obtain ⟨hd, e, hg⟩ := hg
    obtain ⟨h1, h2⟩ := gd_step ho hN hg ht hT
    show ∃ hd e, GdX n ods N (lgTr (L := xL (B := B) n ods H) x t).1 hd e
    rw [tr x t a r hT]
    cases hok : (exX n ods t x.1 a).2.2 with
    | true => exact (h1 hok).1
    | false => exact ⟨hd, e, (h2 hok).1⟩
  · obtain ⟨a, r, hT⟩ := live hl
    obtain ⟨hd, e, hg⟩ := hg
    obtain ⟨h1, h2⟩ := gd_step ho hN hg ht hT
    have hok : (lgTr (L := xL (B := B) n ods H) x t).2 = true := hok
    show muX n (lgTr (L := xL (B := B) n ods H) x t).1 + 1 = _
    rw [tr x t a r hT] at hok ⊢
    have hok : (exX n ods t x.1 a).2.2 = true := hok
    have h3 := (h1 hok).2
    simp only [hok, if_true]
    unfold muX
    have hf : (fun j => wT (updL x.2 t ((exX n ods t x.1 a).2.1 ++ r) j)) = updL (fun j => wT (x.2 j)) t (wT ((exX n ods t x.1 a).2.1 ++ r)) := by
      funext j
      unfold updL
      split <;> rfl
    have h4 := sumN_upd (f := fun j => wT (x.2 j)) (v := wT ((exX n ods t x.1 a).2.1 ++ r)) (show t < n from ht)
    simp only [hT] at h4
    rw [← hf] at h4
    simp only at h4 ⊢
    omega
  · obtain ⟨a, r, hT⟩ := live hl
    obtain ⟨hd, e, hg⟩ := hg
    obtain ⟨h1, h2⟩ := gd_step ho hN hg ht hT
    have hno : (lgTr (L := xL (B := B) n ods H) x t).2 = false := hno
    show muX n (lgTr (L := xL (B := B) n ods H) x t).1 = muX n x ∧ ∀ j, j < n → (lgSys (xL (B := B) n ods H) n).live (lgTr (L := xL (B := B) n ods H) x t).1 j = _ ∧ (_ → (lgTr (L := xL (B := B) n ods H) (lgTr (L := xL (B := B) n ods H) x t).1 j).2 = (lgTr (L := xL (B := B) n ods H) x j).2)
    rw [tr x t a r hT] at hno ⊢
    have hno : (exX n ods t x.1 a).2.2 = false := hno
    have h3 := (h2 hno).2
    simp only [hno, Bool.false_eq_true, if_false]
    refine ⟨rfl, fun j hj => ⟨rfl, fun hlj => ?_⟩⟩
    obtain ⟨a', r', hT'⟩ := live hlj
    rw [tr x j a' r' hT', tr ((exX n ods t x.1 a).1, x.2) j a' r' hT']
    exact ex_ok h3 j a'
  · obtain ⟨hd, e, hg⟩ := hg
    obtain ⟨t, ht, hl⟩ := left_of hl
    obtain ⟨a, r, hT⟩ := live hl
    obtain ⟨s, a', r', hs, hT', hok⟩ := gd_prog ho hg 8 t ht (by rw [hT]; simp) (fun y r2 h => by
      rcases ph_cases (hg.ph t ht) (by rw [hT]; simp) with ⟨r', k', z, hz, f1, f2, _⟩ | ⟨r', f1, _⟩ | ⟨r', f1, _⟩ | ⟨r', f1, _⟩ | ⟨r', f1, _⟩ | ⟨r', k', z, hz, f1, _⟩
      · rw [h] at f1
        injection f1 with f1 _
        injection f1 with f1
        subst f1
        have := ho.r t y (List.mem_of_getElem? hz)
        omega
      · rw [h] at f1; cases f1
      · rw [h] at f1; cases f1
      · rw [h] at f1; cases f1
      · rw [h] at f1; cases f1
      · rw [h] at f1; cases f1)
    refine ⟨s, hs, ?_, ?_⟩
    · show (!(x.2 s).isEmpty) = true
      rw [hT']; rfl
    · show (lgTr (L := xL (B := B) n ods H) x s).2 = true
      rw [tr x s a' r' hT']; exact hok
  · refine sumN_zero fun t ht => ?_
    have := left_none hl (t := t) ht
    have this : (!(x.2 t).isEmpty) = false := this
    cases hT : x.2 t with
    | nil => rfl
    | cons a r => rw [hT] at this; cases this
/-- What all comes to. -/
theorem ex_run (ho : OdX n ods) {times : Nat} (hn : n ≤ 8) (ht : times ≤ 6) (hl : ∀ t, (ods t).length ≤ 8) {u : XU} {T : Nat → List Act} (hT : ∀ t, t < n → T t = progX (ods t) times) (hu : ∀ i, (u.l i).1 = 0) (hw : ∀ t, u.wi t = false) (hb : u.bad = false) (hd : u.dn = 0) {picks : List Int} {R}
    (hR : Sys.loopA (Y := lgSys (xL (B := B) n ods H) n) 70000 (Sys.picksA ⟨(u, T), [], 0⟩ picks) = R) : R.2 = 0 ∧ R.1.x.1.bad = false ∧ R.1.x.1.dn = (times : Int) * n ∧ ∀ i, i < 8 → (R.1.x.1.l i).1 = 0 := by
  have hN : times * n ≤ 48 := Nat.mul_le_mul ht hn
  have hse : sumN (fun _ => times) n = times * n := sumN_const times n
  have h0 : ∃ hd e, GdX n ods (times * n) (u, T) hd e := by
    refine ⟨fun _ => [], fun _ => times, fun t ht' => ?_, fun t ht i hi hm => by simp at hm, fun i hi hne => absurd (hu i) hne, hb, ?_, ?_⟩
    · show Ph (ods t) (u.cs t).1 (T t) [] (u.wi t) times
      rw [hw, hT t ht']
      have := Ph.frs (os := ods t) (c := (u.cs t).1) times (ods t).length (Nat.le_refl _)
      simpa using this
    · show u.dn + _ = _
      rw [hd, hse]; omega
    · show 0 ≤ u.dn
      omega
  have hmu : muX n (u, T) ≤ n * 120 := sumN_le fun t ht' => by
    show wT (T t) ≤ 120
    rw [hT t ht', wT_prog]
    have h1 := hl t
    have : (2 * (ods t).length + 4) * times ≤ 20 * 6 := Nat.mul_le_mul (by omega) ht
    omega
  obtain ⟨h1, h2, h3, h4⟩ := run_ends (ex_prg (B := B) (H := H) ho (N := times * n) (by omega)) (x0 := (u, T)) (by omega) h0 picks
  rw [hR] at h1 h2 h3 h4
  obtain ⟨hd', e', hg⟩ := h3
  have hem : ∀ t, t < n → R.1.x.2 t = [] := fun t ht' => by
    have := left_none h2 (t := t) ht'
    have this : (!(R.1.x.2 t).isEmpty) = false := this
    cases hT : R.1.x.2 t with
    | nil => rfl
    | cons a r => rw [hT] at this; cases this
  have hph : ∀ t, t < n → hd' t = [] ∧ e' t = 0 := fun t ht' => by
    have := hg.ph t ht'
    rw [hem t ht'] at this
    exact ⟨(ph_empty this).1, (ph_empty this).2.1⟩
  refine ⟨h1, hg.bad, ?_, fun i hi => ?_⟩
  · have := hg.dn
    rw [sumN_zero fun t ht' => (hph t ht').2] at this
    rw [← Int.natCast_mul]; omega
  · by_cases h : (R.1.x.1.l i).1 = 0
    · exact h
    · obtain ⟨t, ht', _, h5⟩ := hg.held i hi h
      rw [(hph t ht').1] at h5; cases h5
end
end Go.Proofs.Ytdbgeahmhfocaaa
