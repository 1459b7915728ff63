/- What came in: the data of an argument, by its reading; and a law's row, from the walk of its function. -/
import Derived.Test.YtdbgeahmhfocaaaGreatEngP
import Derived.WalkKit
import Derived.ProofKit
import Derived.OpenShut
import Derived.ShutString
import Derived.ChangeOld
import Derived.Below
import Derived.Deep.Slices
namespace Go.Proofs.YtdbgeahmhfocaaaGreat
set_option linter.unusedSimpArgs false
set_option linter.unusedVariables false
open Go Go.RowKit Go.ChangeShapes Go.WideShapes Go.ChangeAt Go.Deep

section
variable {P : Program} {H : Type} {enc : TypeId × Value → H} {w : World}

/-- Cells of a type can be read. -/
def Rdb (enc : TypeId × Value → H) (P : Program) (w : World) (t : TypeId) (cs : List Value) : Prop := ∃ n x, DataW.trod enc P w 0 (fun _ => true) true n t cs = some x

theorem Rdb.int {t : TypeId} {k : IntKind} {cs : List Value} (ht : P.underlying t = some (.int k)) (h : Rdb enc P w t cs) : ∃ n, cs = [.int k n] ∧ (Lit.int k n).wf = true := by
  obtain ⟨n, x, h⟩ := h
  obtain ⟨m, h, _, hw⟩ := DataW.trod_int ht h
  exact ⟨m, h, hw⟩
theorem Rdb.bool {t : TypeId} {cs : List Value} (ht : P.underlying t = some .bool) (h : Rdb enc P w t cs) : ∃ b, cs = [.bool b] := by
  obtain ⟨n, x, h⟩ := h
  obtain ⟨m, h, _⟩ := DataW.trod_bool ht h
  exact ⟨m, h⟩
theorem Rdb.str {t : TypeId} {cs : List Value} (ht : P.underlying t = some .string) (h : Rdb enc P w t cs) : ∃ s : ByteArray, cs = [.string s] ∧ s.size ≤ maxLen := by
  obtain ⟨n, x, h⟩ := h
  obtain ⟨m, h, _, hw⟩ := DataW.trod_string ht h
  exact ⟨m, h, hw⟩
theorem Rdb.struct {t : TypeId} {fs : Array Field} {cs : List Value} (ht : P.underlying t = some (.struct fs)) (h : Rdb enc P w t cs) :
    cs.length = P.cellsOf t ∧ ∀ f ∈ fs.toList, Rdb enc P w f.type ((cs.drop f.offset).take (P.cellsOf f.type)) := by
  obtain ⟨n, x, h⟩ := h
  cases n with
  | zero => simp [DataW.trod] at h
  | succ n =>
    unfold DataW.trod at h
    rw [ht] at h
    simp only at h
    split at h <;> first | contradiction | skip
    rename_i hl
    refine ⟨hl, fun f hf => ?_⟩
    simp only [Option.map_eq_some_iff] at h
    obtain ⟨xs, hx, _⟩ := h
    obtain ⟨i, hi⟩ := List.getElem?_of_mem hf
    have hlen := mapM_some_length hx
    have hilt : i < fs.toList.length := (List.getElem?_eq_some_iff.1 hi).1
    have := mapM_some_get hx i f hi
    rw [List.getElem?_eq_getElem (by omega)] at this
    exact ⟨n, _, this⟩

theorem list_of {β : Type} {p : Nat → β → Prop} : ∀ n : Nat, (∀ i, i < n → ∃ v, p i v) → ∃ l : List β, l.length = n ∧ ∀ i v, l[i]? = some v → p i v
  | 0, _ => ⟨[], rfl, fun i v h => by simp at h⟩
  | n + 1, h => by
    obtain ⟨l, hl, hp⟩ := list_of n fun i hi => h i (by omega)
    obtain ⟨v, hv⟩ := h n (by omega)
    refine ⟨l ++ [v], by simp [hl], fun i x hx => ?_⟩
    by_cases hi : i < n
    · rw [List.getElem?_append_left (by omega)] at hx; exact hp i x hx
    · rw [List.getElem?_append_right (by omega)] at hx
      by_cases hin : i = n
      · subst hin; simp [hl] at hx; subst hx; exact hv
      · have : i - l.length ≠ 0 := by omega
        obtain ⟨k, hk⟩ := Nat.exists_eq_succ_of_ne_zero this
        rw [hk] at hx; simp at hx

/-- A slice of rows of so many cells each: what it holds. -/
def SlR (w : World) (sz : Nat) {α : Type} (R : α → List Value → Prop) (l : List α) (v : Value) : Prop :=
  ∃ a cap, v = .slice a l.length cap ∧ l.length ≤ cap ∧ cap ≤ maxLen ∧ (a = none → cap = 0) ∧
    ∀ i x, l[i]? = some x → ∃ b o cs, a = some ⟨b, o, none⟩ ∧ b < w.heap.size ∧ R x cs ∧ cs.length = sz ∧ ∀ j v, cs[j]? = some v → w.cell? ⟨b, o + i * sz + j, none⟩ = some v

theorem Rdb.slice {t e : TypeId} {cs : List Value} {α : Type} {R : α → List Value → Prop} (ht : P.underlying t = some (.slice e)) (hsz : 0 < P.cellsOf e) (hR : ∀ cs, Rdb enc P w e cs → ∃ x, R x cs) (h : Rdb enc P w t cs) :
    ∃ v l, cs = [v] ∧ SlR w (P.cellsOf e) R l v := by
  obtain ⟨n, x, h⟩ := h
  rcases open_slice ht h with ⟨rfl, _⟩ | ⟨a, len, cap, m, n', D, Pl, rfl, _, hl, hm, hmm, _, hx⟩
  · exact ⟨_, [], rfl, none, 0, rfl, Nat.le_refl _, Nat.zero_le _, fun _ => rfl, fun i x hi => by simp at hi⟩
  · have hlm : len ≤ m := by rw [hmm]; simp; omega
    obtain ⟨X, hXl, hX⟩ := list_of (β := α × List Value) (p := fun i v => w.cells? 0 (a.add (i * P.cellsOf e)) (P.cellsOf e) = some v.2 ∧ R v.1 v.2) len (fun i hi => by
      obtain ⟨cs', h1, h2⟩ := hx i (by omega)
      obtain ⟨y, hy⟩ := hR cs' ⟨_, _, h2⟩
      exact ⟨(y, cs'), h1, hy⟩)
    refine ⟨_, X.map (·.1), rfl, some a, cap, by simp [hXl], by simpa [hXl] using hl, hm, fun h => by (cases h), fun i x hi => ?_⟩
    rw [List.getElem?_map, Option.map_eq_some_iff] at hi
    obtain ⟨y, hy, rfl⟩ := hi
    have hi' : i < len := by rw [← hXl]; exact (List.getElem?_eq_some_iff.1 hy).1
    obtain ⟨h1, h2⟩ := hX i y hy
    obtain ⟨_, hlen, hc⟩ := World.cells?_some h1
    have hspot : a.spot = none := by
      obtain ⟨h1, _⟩ := hX 0 (X[0]'(by omega)) (List.getElem?_eq_getElem (by omega))
      obtain ⟨_, hlen, hc⟩ := World.cells?_some h1
      have h0 := hc 0 (by omega)
      simp only [Nat.zero_mul, Addr.add, if_true] at h0
      rw [List.getElem?_eq_getElem (by omega)] at h0
      unfold World.cell? at h0
      split at h0
      · split at h0
        · cases h0
        · rename_i hs; simpa using hs
      · cases h0
    obtain ⟨b, o, s⟩ := a
    simp only at hspot
    subst hspot
    have key : ∀ j v, y.2[j]? = some v → w.cell? ⟨b, o + i * P.cellsOf e + j, none⟩ = some v := fun j v hj => by
      have hjl : j < P.cellsOf e := by rw [← hlen]; exact (List.getElem?_eq_some_iff.1 hj).1
      have := hc j hjl
      rw [add_none (a := ⟨b, o, none⟩) rfl, add_none (a := ⟨b, o + i * P.cellsOf e, none⟩) rfl] at this
      rw [← hj]; exact this
    refine ⟨b, o, y.2, rfl, ?_, h2, hlen, key⟩
    have h0 := key 0 y.2[0] (List.getElem?_eq_getElem (by omega))
    unfold World.cell? at h0
    split at h0
    · rename_i hh; exact (Array.getElem?_eq_some_iff.1 hh).1
    · cases h0

theorem Trod.rdb {t : TypeId} {v : Value} {d : DataW H} {ps : List MemPlace} (h : DataW.Trod enc P w 0 (fun _ => true) true t v d ps) : Rdb enc P w t v.cells.toList :=
  let ⟨n, h⟩ := h; ⟨n, _, h⟩

theorem arg_int {r : Reach} {b0 : Nat} {t : TypeId} {k : IntKind} {v : Value} (ht : P.underlying t = some (.int k)) (ho : Value.okWide P w r b0 t v) (h : Rdb enc P w t v.cells.toList) : ∃ n, v = .int k n ∧ (Lit.int k n).wf = true := by
  obtain ⟨n, rfl⟩ := okWide_int ht ho
  obtain ⟨m, h1, h2⟩ := h.int ht
  simp [Value.cells] at h1
  subst h1
  exact ⟨n, rfl, h2⟩
theorem arg_str {r : Reach} {b0 : Nat} {t : TypeId} {v : Value} (ht : P.underlying t = some .string) (ho : Value.okWide P w r b0 t v) (h : Rdb enc P w t v.cells.toList) : ∃ s : ByteArray, v = .string s ∧ s.size ≤ maxLen := by
  obtain ⟨n, rfl⟩ := okWide_string ht ho
  obtain ⟨m, h1, h2⟩ := h.str ht
  simp [Value.cells] at h1
  subst h1
  exact ⟨n, rfl, h2⟩
theorem arg_slice {r : Reach} {b0 : Nat} {t e : TypeId} {v : Value} {α : Type} {R : α → List Value → Prop} (ht : P.underlying t = some (.slice e)) (hsz : 0 < P.cellsOf e) (hR : ∀ cs, Rdb enc P w e cs → ∃ x, R x cs)
    (ho : Value.okWide P w r b0 t v) (h : Rdb enc P w t v.cells.toList) : ∃ l, SlR w (P.cellsOf e) R l v := by
  obtain ⟨a, len, cap, rfl⟩ := okWide_slice ht ho
  obtain ⟨v', l, h1, h2⟩ := h.slice ht hsz hR
  simp [Value.cells] at h1
  subst h1
  exact ⟨l, h2⟩

theorem wf_i64 {n : Int} (h : (Lit.int .i64 n).wf = true) : -9223372036854775808 ≤ n ∧ n ≤ 9223372036854775807 := by
  simpa [Lit.wf, IntKind.min, IntKind.max, IntKind.signed, IntKind.bits] using h
theorem wf_u8 {n : Int} (h : (Lit.int .u8 n).wf = true) : 0 ≤ n ∧ n ≤ 255 := by
  simpa [Lit.wf, IntKind.min, IntKind.max, IntKind.signed, IntKind.bits] using h

end

/-- From a contract to the machine's own statement. -/
theorem Fn.calls {P : Program} {B : World} {f : FuncId} {args : Array Value} (h : Fn P B f args { m := fun _ => none, n := B.heap.size } fun v _ => v = .bool true) :
    Calls P f args B fun e w' => e = .returned (.bool true) ∧ Below B.heap.size B w' :=
  (h.2 B (Rel.start B)).mono fun _ _ ⟨_, _, he, hr, hv⟩ => ⟨by rw [he, hv], hr.below⟩
end Go.Proofs.YtdbgeahmhfocaaaGreat
