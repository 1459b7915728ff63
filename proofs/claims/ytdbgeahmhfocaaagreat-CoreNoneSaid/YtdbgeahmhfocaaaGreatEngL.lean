/- More rules for the walk: slices cut out of slices. -/
import Derived.Test.YtdbgeahmhfocaaaGreatEngX
namespace Go.Proofs.YtdbgeahmhfocaaaGreat
set_option linter.unusedSimpArgs false
set_option linter.unusedVariables false
open Go Go.RowKit

section
variable {P : Program} {B : World} {σ : St} {e : Fr} {t : TypeId} {d : Option Tmp} {K : Fr → St → Prop} {k k' : IntKind}
theorem addr_add_zero (a : Addr) : a.add 0 = a := by unfold Addr.add; simp
def slH (a : Option Addr) (cap : Nat) (i : Int) : Option (Option Nat × Nat × Bool) → Option Value
  | some (none, _, _) => if 0 ≤ i ∧ i ≤ cap then some (.slice a i.toNat cap) else none
  | _ => none
@[go_sem] theorem slc_hi {a : Option Addr} {n c : Nat} {i : Int} : slc P t (.slice a n c) none (some (.int k i)) none = slH a c i (ik P t) := by
  unfold slc slH
  simp only
  cases ik P t with
  | none => rfl
  | some x =>
    obtain ⟨y, s, g⟩ := x
    cases y with
    | some y => rfl
    | none =>
      simp only [sbs, sbd, Option.bind_some]
      by_cases h : 0 ≤ i ∧ i ≤ c
      · have hm : a.map (fun x => x.add 0) = a := by cases a <;> simp [addr_add_zero]
        simp [h, hm]
      · simp [h]
@[go_sem] theorem slH_some {a : Option Addr} {c s : Nat} {i : Int} {g : Bool} : slH a c i (some (none, s, g)) = if 0 ≤ i ∧ i ≤ c then some (.slice a i.toNat c) else none := rfl
/-- Where a slice begins that is cut off at its front. -/
def slA (a : Option Addr) (cap i s : Nat) : Option Addr := if cap = i then a else a.map (·.add (i * s))
def slL (a : Option Addr) (n cap : Nat) (i : Int) : Option (Option Nat × Nat × Bool) → Option Value
  | some (none, s, _) => if 0 ≤ i ∧ i ≤ n then some (.slice (slA a cap i.toNat s) (n - i.toNat) (cap - i.toNat)) else none
  | _ => none
@[go_sem] theorem slc_lo {a : Option Addr} {n c : Nat} {i : Int} : slc P t (.slice a n c) (some (.int k i)) none none = slL a n c i (ik P t) := by
  unfold slc slL slA
  simp only
  cases ik P t with
  | none => rfl
  | some x =>
    obtain ⟨y, s, g⟩ := x
    cases y with
    | some y => rfl
    | none =>
      simp only [sbs, sbd, Option.bind_some]
      by_cases h : 0 ≤ i ∧ i ≤ n <;> simp [h]
@[go_sem] theorem slL_some {a : Option Addr} {n c s : Nat} {i : Int} {g : Bool} : slL a n c i (some (none, s, g)) = if 0 ≤ i ∧ i ≤ n then some (.slice (slA a c i.toNat s) (n - i.toNat) (c - i.toNat)) else none := rfl
theorem slA_mk {b o c i s : Nat} (h : ¬ c = i) : slA (some ⟨b, o, none⟩) c i s = some ⟨b, o + i * s, none⟩ := by simp [slA, h, add_none]
end

/-! ### Numbers -/
def ints (l : List Int) : List Value := l.map (Value.int .i64)
theorem ints_len (l : List Int) : (ints l).length = l.length := by simp [ints]
theorem ints_get {l : List Int} {i : Nat} {x : Int} (h : l[i]? = some x) (sp : List Value) : (ints l ++ sp)[i]? = some (.int .i64 x) := by
  have hl := (List.getElem?_eq_some_iff.1 h).1
  rw [List.getElem?_append_left (by rw [ints_len]; exact hl)]
  simp [ints, h]
theorem ints_append (l l' : List Int) : ints (l ++ l') = ints l ++ ints l' := by simp [ints]
theorem ints_set {l : List Int} {i : Nat} (sp : List Value) (hi : i < l.length) (x : Int) : (ints l ++ sp).set i (.int .i64 x) = ints (l.set i x) ++ sp := by
  rw [List.set_append_left _ _ (by rw [ints_len]; exact hi)]
  simp [ints, List.map_set]
def bools (l : List Bool) : List Value := l.map Value.bool
theorem bools_len (l : List Bool) : (bools l).length = l.length := by simp [bools]
theorem bools_get {l : List Bool} {i : Nat} {x : Bool} (h : l[i]? = some x) (sp : List Value) : (bools l ++ sp)[i]? = some (.bool x) := by
  have hl := (List.getElem?_eq_some_iff.1 h).1
  rw [List.getElem?_append_left (by rw [bools_len]; exact hl)]
  simp [bools, h]
theorem bools_append (l l' : List Bool) : bools (l ++ l') = bools l ++ bools l' := by simp [bools]
theorem bools_set {l : List Bool} {i : Nat} (sp : List Value) (hi : i < l.length) (x : Bool) : (bools l ++ sp).set i (.bool x) = bools (l.set i x) ++ sp := by
  rw [List.set_append_left _ _ (by rw [bools_len]; exact hi)]
  simp [bools, List.map_set]

/-! ### What is owned, more -/
section
variable {σ : St}
theorem OwnL.one {x : Sp} {vs : List Value} (h : OwnL σ [x] vs) : ∃ v, vs = [v] ∧ Own σ x.ty x.s x.cs x.n v := by
  match vs, h with
  | [v], ⟨h, _⟩ => exact ⟨v, rfl, h⟩
theorem OwnL.two {x y : Sp} {vs : List Value} (h : OwnL σ [x, y] vs) : ∃ v w, vs = [v, w] ∧ Own σ x.ty x.s x.cs x.n v ∧ Own σ y.ty y.s y.cs y.n w := by
  match vs, h with
  | [v, w], ⟨h, h', _⟩ => exact ⟨v, w, rfl, h, h'⟩
theorem OwnL.three {x y z : Sp} {vs : List Value} (h : OwnL σ [x, y, z] vs) : ∃ v w u, vs = [v, w, u] ∧ Own σ x.ty x.s x.cs x.n v ∧ Own σ y.ty y.s y.cs y.n w ∧ Own σ z.ty z.s z.cs z.n u := by
  match vs, h with
  | [v, w, u], ⟨h, h', h'', _⟩ => exact ⟨v, w, u, rfl, h, h', h''⟩
theorem OwnL.four {x y z t : Sp} {vs : List Value} (h : OwnL σ [x, y, z, t] vs) : ∃ v w u s, vs = [v, w, u, s] ∧ Own σ x.ty x.s x.cs x.n v ∧ Own σ y.ty y.s y.cs y.n w ∧ Own σ z.ty z.s z.cs z.n u ∧ Own σ t.ty t.s t.cs t.n s := by
  match vs, h with
  | [v, w, u, s], ⟨h, h', h'', h3, _⟩ => exact ⟨v, w, u, s, rfl, h, h', h'', h3⟩
/-- Not empty: it has a block. -/
theorem Own.has {ty : TypeId} {s n : Nat} {cs : List Value} {v : Value} (h : Own σ ty s cs n v) (hn : 0 < n) : ∃ b cap sp, v = .slice (some ⟨b, 0, none⟩) n cap ∧ n ≤ cap ∧ σ.m b = some (.raw (.cells (cs ++ sp).toArray ty (0, 0))) ∧ (cs ++ sp).length = cap * s ∧ cs.length = n * s := by
  obtain ⟨h1, ⟨_, h2⟩ | ⟨b, cap, sp, h2, h3, h4, h5⟩⟩ := h
  · omega
  · exact ⟨b, cap, sp, h2, h3, h4, h5, h1⟩
theorem Own.of' {ty : TypeId} {s n b cap : Nat} {cs sp : List Value} (h3 : σ.m b = some (.raw (.cells (cs ++ sp).toArray ty (0, 0)))) (h1 : cs.length = n * s) (h2 : n ≤ cap) (h4 : (cs ++ sp).length = cap * s) : Own σ ty s cs n (.slice (some ⟨b, 0, none⟩) n cap) :=
  ⟨h1, .inr ⟨b, cap, sp, rfl, h2, h3, h4⟩⟩
theorem Own.of {ty : TypeId} {s n b cap : Nat} {cs sp : List Value} (h1 : cs.length = n * s) (h2 : n ≤ cap) (h3 : σ.m b = some (.raw (.cells (cs ++ sp).toArray ty (0, 0)))) (h4 : (cs ++ sp).length = cap * s) : Own σ ty s cs n (.slice (some ⟨b, 0, none⟩) n cap) :=
  ⟨h1, .inr ⟨b, cap, sp, rfl, h2, h3, h4⟩⟩
end
end Go.Proofs.YtdbgeahmhfocaaaGreat
