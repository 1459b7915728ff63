/- 'SchedAll': the threads that the law builds. -/
import Derived.Test.YtgcojbgkenndhaaRunsB
import Derived.Test.YtgcojbgkenndhaaAllP
import Derived.Test.YtgcojbgkenndhaaMachN
namespace Go.Proofs.Ytgcojbgkenndhaa
set_option linter.unusedSimpArgs false
set_option linter.unusedVariables false
set_option maxRecDepth 100000
open Go Go.RowKit
section
variable {B : World} {σ τ : St} {K : Value → St → Prop}
def zl (l : List (Int × Int)) : List (Int × Int) := l.map fun x => (0, x.2)
def zth (th : List (List (Int × Int))) : List (List (Int × Int)) := th.map zl
def fI (x : Int × Int) : List Value := [.int .i64 x.1, .int .i64 x.2]
theorem fI_len (x : Int × Int) : (fI x).length = 2 := rfl
theorem zl_len (l : List (Int × Int)) : (zl l).length = l.length := by simp [zl]
theorem zth_len (th : List (List (Int × Int))) : (zth th).length = th.length := by simp [zth]
theorem zth_get {th : List (List (Int × Int))} {t : Nat} {l : List (Int × Int)} (h : th[t]? = some l) : (zth th)[t]? = some (zl l) := by simp [zth, h]
theorem lenT_get {th : List (List (Int × Int))} {t : Nat} {l : List (Int × Int)} (h : th[t]? = some l) : lenT th t = l.length := by unfold lenT; rw [List.getD_eq_getElem?_getD, h]; rfl
theorem lenT_zth (th : List (List (Int × Int))) (t : Nat) : lenT (zth th) t = lenT th t := by
  cases h : th[t]? with
  | some l => rw [lenT_get h, lenT_get (zth_get h), zl_len]
  | none =>
    unfold lenT zth
    rw [List.getD_eq_getElem?_getD, List.getD_eq_getElem?_getD, h, List.getElem?_map, h]
    rfl
theorem lenT_over {th : List (List (Int × Int))} {t : Nat} (h : th.length ≤ t) : lenT th t = 0 := by
  unfold lenT
  rw [List.getD_eq_getElem?_getD, List.getElem?_eq_none h]
  rfl
/-- The threads that the law builds, and two of nothing behind them. -/
def th2 (th : List (List (Int × Int))) : List (List (Int × Int)) := zth th ++ [[], []]
theorem th2_len (th : List (List (Int × Int))) : (th2 th).length = th.length + 2 := by simp [th2, zth_len]
theorem th2_get {th : List (List (Int × Int))} {t : Nat} (h : t < th.length) : (th2 th)[t]? = (zth th)[t]? := by
  unfold th2
  rw [List.getElem?_append_left (by rw [zth_len]; exact h)]
theorem lenT_th2 (th : List (List (Int × Int))) (t : Nat) : lenT (th2 th) t = lenT th t := by
  by_cases h : t < th.length
  · rw [← lenT_zth th t]
    unfold lenT
    rw [List.getD_eq_getElem?_getD, List.getD_eq_getElem?_getD, th2_get h]
  · rw [lenT_over (th := th) (by omega)]
    by_cases h2 : th.length + 2 ≤ t
    · exact lenT_over (by rw [th2_len]; exact h2)
    · have hk : t - (zth th).length = 0 ∨ t - (zth th).length = 1 := by rw [zth_len]; omega
      unfold lenT th2
      rw [List.getD_eq_getElem?_getD, List.getElem?_append_right (by rw [zth_len]; omega)]
      rcases hk with hk | hk <;> rw [hk] <;> rfl
theorem th2_zk (th : List (List (Int × Int))) : Zk (th2 th) := ⟨fun t p => by
  unfold insT
  rw [List.getD_eq_getElem?_getD, List.getD_eq_getElem?_getD]
  by_cases h : t < th.length
  · rw [th2_get h]
    obtain ⟨l, hl⟩ : ∃ l, th[t]? = some l := ⟨th[t], List.getElem?_eq_getElem h⟩
    rw [zth_get hl]
    show ((zl l)[p]?.getD (0, 0)).1 = 0
    unfold zl
    rw [List.getElem?_map]
    cases l[p]? <;> rfl
  · by_cases h2 : th.length + 2 ≤ t
    · rw [List.getElem?_eq_none (show (th2 th).length ≤ t by rw [th2_len]; exact h2)]; rfl
    · have hk : t - (zth th).length = 0 ∨ t - (zth th).length = 1 := by rw [zth_len]; omega
      unfold th2
      rw [List.getElem?_append_right (by rw [zth_len]; omega)]
      rcases hk with hk | hk <;> rw [hk] <;> rfl⟩
theorem th2_sm {th : List (List (Int × Int))} (h : Sm th) (h8 : th.length ≤ 8) : Sm (th2 th) := ⟨by rw [th2_len]; omega, fun t _ => by
  rw [lenT_th2]
  by_cases ht : t < th.length
  · exact h.l t ht
  · rw [lenT_over (by omega)]; omega⟩
theorem th2_tot (th : List (List (Int × Int))) : tot (lenT (th2 th)) (th2 th).length = tot (lenT th) th.length := by
  have e : ∀ n, tot (lenT (th2 th)) n = tot (lenT th) n := fun n => tot_eq n fun t _ => lenT_th2 th t
  rw [th2_len, e, tot, tot, lenT_over (th := th) (by omega), lenT_over (th := th) (by omega), Nat.add_zero]
/-- A block that holds threads or instructions that the law builds. -/
def FB (n0 : Nat) (s : St) (c : Nat) (y : HP) : Prop := s.m c = some y ∧ n0 ≤ c ∧ ∃ v ty, y = .raw (.cells v ty (0, 0)) ∧ (ty = 91 ∨ ty = 92)
/-- What is built: the first 'i' threads. -/
structure FrD (n0 : Nat) (th : List (List (Int × Int))) (i : Nat) (vs : List Value) (v : Value) (s : St) : Prop where
  own : Own s 91 1 vs i v
  len : vs.length = i
  nb : ∀ b, blk v = some b → n0 ≤ b
  el : ∀ (t : Nat) (l : List (Int × Int)), t < i → th[t]? = some l → ∃ u, vs[t]? = some u ∧ Own s 92 2 (flat fI (zl l)) l.length u ∧ ∀ b, blk u = some b → n0 ≤ b
theorem FrD.rdv {n0 : Nat} {th : List (List (Int × Int))} {vs : List Value} {v : Value} {s : St} (h : FrD n0 th th.length vs v s) : RdV (FB n0 s) B (zth th) v := by
  have ho := h.own
  obtain ⟨a, cap, rfl, hc⟩ := ho.is
  refine ⟨a, cap, by rw [zth_len], fun t lz hlz => ?_⟩
  have ht : t < th.length := by have := (List.getElem?_eq_some_iff.1 hlz).1; rw [zth_len] at this; exact this
  obtain ⟨l, hl⟩ : ∃ l, th[t]? = some l := ⟨th[t], List.getElem?_eq_getElem ht⟩
  rw [zth_get hl] at hlz
  cases hlz
  obtain ⟨u, hu, hou, hub⟩ := h.el t l ht hl
  obtain ⟨b, cap', sp, e, _, mb, _, _⟩ := ho.has (by omega)
  cases e
  obtain ⟨a1, cap1, rfl, hc1⟩ := hou.is
  refine ⟨b, 0, a1, cap1, rfl, .inr ⟨_, _, ⟨mb, h.nb b rfl, _, _, rfl, .inl rfl⟩, ?_⟩, fun p x hx => ?_⟩
  · rw [Nat.zero_add, List.getElem?_toArray, zl_len]
    exact vs_get hu sp
  · have hp := (List.getElem?_eq_some_iff.1 hx).1
    rw [zl_len] at hp
    obtain ⟨b1, cap1', sp1, e1, _, mb1, _, _⟩ := hou.has (by omega)
    cases e1
    refine ⟨b1, 0, rfl, .inr ⟨_, _, ⟨mb1, hub b1 rfl, _, _, rfl, .inr rfl⟩, ?_⟩, .inr ⟨_, _, ⟨mb1, hub b1 rfl, _, _, rfl, .inr rfl⟩, ?_⟩⟩
    · rw [Nat.zero_add, List.getElem?_toArray]
      exact flat_get fI_len (zl l) sp1 p x 0 _ hx rfl
    · rw [Nat.zero_add, List.getElem?_toArray]
      exact flat_get fI_len (zl l) sp1 p x 1 _ hx rfl
end
end Go.Proofs.Ytgcojbgkenndhaa
