/- Objects: a struct in memory that owns some slices, folded into one. -/
import Derived.Test.YtdbgeahmhfocaaaGreatEngR
namespace Go.Proofs.YtdbgeahmhfocaaaGreat
set_option linter.unusedSimpArgs false
set_option linter.unusedVariables false
open Go Go.RowKit

/-- What a slice that is owned holds: its elements' type, an element's cells, all its cells, how many elements. -/
structure Sp where
  ty : TypeId
  s : Nat
  cs : List Value
  n : Nat

def OwnL (σ : St) : List Sp → List Value → Prop
  | [], [] => True
  | x :: xs, v :: vs => Own σ x.ty x.s x.cs x.n v ∧ OwnL σ xs vs
  | _, _ => False
/-- A slice's block is not this one. -/
def Off (v : Value) (p : Nat) : Prop := blk v ≠ some p
/-- Two slices' blocks are apart. -/
def Dis (v w : Value) : Prop := ∀ b, blk v = some b → blk w ≠ some b
def OffL : List Value → Nat → Prop
  | [], _ => True
  | v :: vs, p => Off v p ∧ OffL vs p
def DisL (v : Value) : List Value → Prop
  | [] => True
  | u :: us => Dis v u ∧ DisL v us
/-- The blocks of these slices are apart, and none is 'p'. -/
def Apart : List Value → Nat → Prop
  | [], _ => True
  | v :: vs, p => Off v p ∧ DisL v vs ∧ Apart vs p
@[go_sem] theorem Off_some {b o p n c : Nat} : Off (.slice (some ⟨b, o, none⟩) n c) p = (b ≠ p) := by simp [Off, blk]
@[go_sem] theorem Off_none {p n c : Nat} : Off (.slice none n c) p = True := by simp [Off, blk]
@[go_sem] theorem Dis_some {b o b' o' n c n' c' : Nat} : Dis (.slice (some ⟨b, o, none⟩) n c) (.slice (some ⟨b', o', none⟩) n' c') = (b ≠ b') := by
  simp only [Dis, blk, Option.some.injEq, forall_eq', ne_eq, eq_iff_iff]
  exact ⟨fun h e => h e.symm, fun h e => h e.symm⟩
@[go_sem] theorem Dis_none {w : Value} {n c : Nat} : Dis (.slice none n c) w = True := by simp [Dis, blk]
@[go_sem] theorem Dis_none' {v : Value} {n c : Nat} : Dis v (.slice none n c) = True := by simp [Dis, blk]
@[go_sem] theorem OffL_nil {p : Nat} : OffL [] p = True := rfl
@[go_sem] theorem OffL_cons {v : Value} {vs : List Value} {p : Nat} : OffL (v :: vs) p = (Off v p ∧ OffL vs p) := rfl
@[go_sem] theorem DisL_nil {v : Value} : DisL v [] = True := rfl
@[go_sem] theorem DisL_cons {v u : Value} {us : List Value} : DisL v (u :: us) = (Dis v u ∧ DisL v us) := rfl
@[go_sem] theorem Apart_nil {p : Nat} : Apart [] p = True := rfl
@[go_sem] theorem Apart_cons {v : Value} {vs : List Value} {p : Nat} : Apart (v :: vs) p = (Off v p ∧ DisL v vs ∧ Apart vs p) := rfl
theorem OffL.mem {p : Nat} : ∀ {vs : List Value}, OffL vs p → ∀ v ∈ vs, blk v ≠ some p
  | v :: vs, h, u, hu => by
    rcases List.mem_cons.1 hu with rfl | hu
    · exact h.1
    · exact OffL.mem h.2 u hu
theorem OffL.of {p : Nat} : ∀ {vs : List Value}, (∀ v ∈ vs, blk v ≠ some p) → OffL vs p
  | [], _ => trivial
  | v :: vs, h => ⟨h v List.mem_cons_self, OffL.of fun u hu => h u (List.mem_cons_of_mem _ hu)⟩

def hs (h : Heaplet) : St := { m := fun c => (h c).map .raw, n := 0 }

def Obj (ty : TypeId) (root : List Value → List Value) (sp : List Sp) (p : Nat) (h : Heaplet) : Prop :=
  ∃ vs : List Value, h p = some (.cells (root vs).toArray ty (0, 0)) ∧ OwnL (hs h) sp vs ∧ Apart vs p

section
variable {P : Program} {B : World} {σ τ : St}

theorem Own.keepR {ty : TypeId} {s n : Nat} {cs : List Value} {v : Value} {σ' : St} (h : Own σ ty s cs n v) (hk : ∀ b o, blk v = some b → σ.m b = some (.raw o) → σ'.m b = some (.raw o)) : Own σ' ty s cs n v := by
  obtain ⟨h1, h | ⟨b, cap, sp, rfl, h2, h3, h4⟩⟩ := h
  · exact ⟨h1, .inl h⟩
  · exact ⟨h1, .inr ⟨b, cap, sp, rfl, h2, hk b _ rfl h3, h4⟩⟩
theorem Own.at_ {ty : TypeId} {s n : Nat} {cs : List Value} {v : Value} (h : Own σ ty s cs n v) {b : Nat} (hb : blk v = some b) : ∃ o, σ.m b = some (.raw o) := by
  obtain ⟨h1, ⟨rfl, _⟩ | ⟨b', cap, sp, rfl, h2, h3, h4⟩⟩ := h
  · cases hb
  · cases hb; exact ⟨_, h3⟩
theorem OwnL.keepR {σ' : St} : ∀ {xs : List Sp} {vs : List Value}, OwnL σ xs vs → (∀ v ∈ vs, ∀ b o, blk v = some b → σ.m b = some (.raw o) → σ'.m b = some (.raw o)) → OwnL σ' xs vs
  | [], [], _, _ => trivial
  | x :: xs, v :: vs, h, hk => ⟨h.1.keepR (hk v List.mem_cons_self), OwnL.keepR h.2 fun u hu => hk u (List.mem_cons_of_mem _ hu)⟩
theorem OwnL.at_ : ∀ {xs : List Sp} {vs : List Value}, OwnL σ xs vs → ∀ v ∈ vs, ∀ b, blk v = some b → ∃ o, σ.m b = some (.raw o)
  | [], [], _, _, hu, _, _ => (by cases hu)
  | [], _ :: _, h, _, _, _, _ => h.elim
  | _ :: _, [], h, _, _, _, _ => h.elim
  | x :: xs, v :: vs, h, u, hu, b, hb => by
    rcases List.mem_cons.1 hu with rfl | hu
    · exact h.1.at_ hb
    · exact OwnL.at_ h.2 u hu b hb

/-- An object is opened ahead of a call. -/
theorem Fn.openO {K : Value → St → Prop} {f : FuncId} {args : Array Value} {p : Nat} {ty : TypeId} {root : List Value → List Value} {sp : List Sp} (hm : σ.m p = some (.comp (Obj ty root sp p)))
    (he : ∃ fn, P.funcs[f]? = some fn ∧ (fn.name == "runtime.NumGoroutine") = false ∧ fn.body.isSome = true)
    (h : ∀ (vs : List Value) (τ : St), τ.wf B → τ.n = σ.n → τ.m p = some (.raw (.cells (root vs).toArray ty (0, 0))) → OwnL τ sp vs → Apart vs p →
      (∀ c x, c ≠ p → σ.m c = some x → τ.m c = some x ∧ OffL vs c) → Fn P B f args τ K) : Fn P B f args σ K := by
  refine Fn.opens hm he fun g τ hR hwf hn hg hd hk => ?_
  obtain ⟨vs, h1, h2, h3⟩ := hR
  have hx : ∀ b o, (hs g).m b = some (.raw o) → τ.m b = some (.raw o) := fun b o hb => by
    simp only [hs, Option.map_eq_some_iff] at hb
    obtain ⟨o', ho', e⟩ := hb
    cases e; exact hg b o ho'
  refine h vs τ hwf hn (hg p _ h1) (h2.keepR fun v _ b o _ hb => hx b o hb) h3 fun c x hc hcx => ⟨hk c x hc hcx, .of fun v hv hb => ?_⟩
  obtain ⟨o, ho⟩ := h2.at_ v hv c hb
  simp only [hs, Option.map_eq_some_iff] at ho
  obtain ⟨o', ho', _⟩ := ho
  rcases hd c o' ho' with h4 | h4
  · exact hc h4
  · rw [hcx] at h4; cases h4

/-- An object is closed. -/
theorem To.closeO {p : Nat} {ty : TypeId} {root : List Value → List Value} {sp : List Sp} (vs : List Value) (hp : τ.m p = some (.raw (.cells (root vs).toArray ty (0, 0)))) (ho : OwnL τ sp vs) (ha : Apart vs p)
    (hrest : ∀ c x, c ≠ p → σ.m c = some x → τ.m c = some x ∧ OffL vs c) : To B τ ((σ.set p (.comp (Obj ty root sp p))).up τ.n) := by
  have hin : ∀ v ∈ vs, ∀ b, blk v = some b → b ∈ p :: vs.filterMap blk := fun v hv b hb => List.mem_cons_of_mem _ (List.mem_filterMap.2 ⟨v, hv, hb⟩)
  refine To.close (p :: vs.filterMap blk) List.mem_cons_self hp ⟨vs, pick_of List.mem_cons_self hp, ho.keepR fun v hv b o hb hm => ?_, ha⟩ fun c x hc hx => ?_
  · simp only [hs, pick_of (hin v hv b hb) hm, Option.map_some]
  · obtain ⟨h1, h2⟩ := hrest c x hc hx
    refine ⟨fun hm => ?_, h1⟩
    rcases List.mem_cons.1 hm with h3 | h3
    · exact hc h3
    · obtain ⟨v, hv, hb⟩ := List.mem_filterMap.1 h3
      exact h2.mem v hv hb
/-- A new object: its root is a block of this view, its slices are owned by it. -/
theorem To.foldO {p : Nat} {ty : TypeId} {root : List Value → List Value} {sp : List Sp} (vs : List Value) (hp : τ.m p = some (.raw (.cells (root vs).toArray ty (0, 0)))) (ho : OwnL τ sp vs) (ha : Apart vs p)
    (hrest : ∀ c x, c ≠ p → σ.m c = some x → τ.m c = some x ∧ OffL vs c) : To B τ ((σ.set p (.comp (Obj ty root sp p))).up τ.n) := To.closeO vs hp ho ha hrest

theorem Fn.of'' {f : FuncId} {n : Nat} {c : Code} {rs : Array ResultVar} (hf : FnIs P f n c rs) {args : Array Value} {K : Value → St → Prop} (hsz : args.size ≤ n) (hwf : σ.wf B)
    (h : wpS P B none n c (retQ P B rs fun v σ' => ∃ σ'', To B σ' σ'' ∧ K v σ'') (fr0 args) σ) : Fn P B f args σ K := Fn.of' hf hsz fun _ => h
end
end Go.Proofs.YtdbgeahmhfocaaaGreat
