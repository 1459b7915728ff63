/- The view of memory under all proofs of this seat: a partial map from blocks to what they hold, which is either a block as it lies or a folded object; a world agrees with it. -/
import Derived.OrdersIn
import Derived.RangeFuncLeaves
import Derived.Below
import Derived.KernelRfl
namespace Go.Proofs.YtdbgeahmhfocaaaGreat
set_option linter.unusedSimpArgs false
set_option linter.unusedVariables false
open Go Go.RowKit

abbrev Heaplet := Nat → Option Obj

/-- What a block holds: itself, or a folded object over blocks that it owns. -/
inductive HP where
  | raw (o : Obj)
  | comp (R : Heaplet → Prop)

def HP.sat (b : Nat) (h : Heaplet) : HP → Prop
  | .raw o => h b = some o
  | .comp R => R h

structure St where
  m : Nat → Option HP
  n : Nat

namespace St
def set (σ : St) (b : Nat) (x : HP) : St := { σ with m := fun c => if c = b then some x else σ.m c }
def new (σ : St) (o : Obj) : St := { m := fun c => if c = σ.n then some (.raw o) else σ.m c, n := σ.n + 1 }
def up (σ : St) (k : Nat) : St := { σ with n := k }
def wf (B : World) (σ : St) : Prop := B.heap.size ≤ σ.n ∧ ∀ b x, σ.m b = some x → B.heap.size ≤ b ∧ b < σ.n

@[simp, go_sem] theorem set_n (σ : St) (b : Nat) (x : HP) : (σ.set b x).n = σ.n := rfl
@[simp, go_sem] theorem new_n (σ : St) (o : Obj) : (σ.new o).n = σ.n + 1 := rfl
@[simp, go_sem] theorem up_n (σ : St) (k : Nat) : (σ.up k).n = k := rfl
@[simp, go_sem] theorem up_m (σ : St) (k : Nat) : (σ.up k).m = σ.m := rfl
@[simp, go_sem] theorem up_up (σ : St) (j k : Nat) : (σ.up j).up k = σ.up k := rfl
@[simp, go_sem] theorem up_self (σ : St) : σ.up σ.n = σ := rfl
@[simp, go_sem] theorem up_set (σ : St) (k b : Nat) (x : HP) : (σ.up k).set b x = (σ.set b x).up k := rfl
@[simp, go_sem] theorem set_m_same (σ : St) (b : Nat) (x : HP) : (σ.set b x).m b = some x := by simp [set]
theorem set_m_ne (σ : St) {b c : Nat} (x : HP) (h : c ≠ b) : (σ.set b x).m c = σ.m c := by simp [set, h]
@[simp, go_sem] theorem new_m_same (σ : St) (o : Obj) : (σ.new o).m σ.n = some (.raw o) := by simp [new]
theorem new_m_ne (σ : St) {c : Nat} (o : Obj) (h : c ≠ σ.n) : (σ.new o).m c = σ.m c := by simp [new, h]
@[simp, go_sem] theorem set_set (σ : St) (b : Nat) (x y : HP) : (σ.set b x).set b y = σ.set b y := by
  simp only [set, mk.injEq, and_true]; funext c; split <;> rfl
@[simp, go_sem] theorem new_set (σ : St) (o o' : Obj) : (σ.new o).set σ.n (.raw o') = σ.new o' := by
  simp only [set, new, mk.injEq, and_true]; funext c; split <;> rfl
end St

def part (B w : World) (own : Nat → Nat) (b : Nat) : Heaplet := fun c => if own c = b ∧ B.heap.size ≤ c then w.heap[c]? else none

/-- The world 'w' is as the view says, and below the base's size it is as the base was. -/
structure Rel (B w : World) (σ : St) : Prop where
  below : Below B.heap.size B w
  size : w.heap.size = σ.n
  low : ∀ b x, σ.m b = some x → B.heap.size ≤ b ∧ b < σ.n
  own : ∃ own : Nat → Nat, ∀ b x, σ.m b = some x → own b = b ∧ x.sat b (part B w own b)

section
variable {B w : World} {σ : St}

theorem Rel.wf (h : Rel B w σ) : σ.wf B := ⟨h.size ▸ h.below.size, h.low⟩

theorem Rel.start (B : World) : Rel B B { m := fun _ => none, n := B.heap.size } :=
  ⟨Below.refl _ _, rfl, fun _ _ h => by simp at h, id, fun _ _ h => by simp at h⟩

theorem Rel.raw (h : Rel B w σ) {b : Nat} {o : Obj} (hb : σ.m b = some (.raw o)) : w.heap[b]? = some o := by
  obtain ⟨own, ho⟩ := h.own
  obtain ⟨h1, h2⟩ := ho b _ hb
  have h3 := (h.low b _ hb).1
  simpa [HP.sat, part, h1, h3] using h2

theorem Rel.drawn (h : Rel B w σ) (k : Nat) : Rel B { w with drawn := k } σ :=
  ⟨⟨h.below.os, h.below.tape, h.below.output, h.below.size, h.below.block⟩, h.size, h.low, h.own⟩

theorem Rel.sub (h : Rel B w σ) {σ' : St} (hn : σ'.n = σ.n) (hs : ∀ b x, σ'.m b = some x → σ.m b = some x) : Rel B w σ' :=
  ⟨h.below, h.size.trans hn.symm, fun b x hb => hn ▸ h.low b x (hs b x hb), let ⟨own, ho⟩ := h.own; ⟨own, fun b x hb => ho b x (hs b x hb)⟩⟩

/-- What lies at an address, by the view. -/
def rd (B : World) (σ : St) (a : Addr) : Option Value :=
  match σ.m a.block with
  | some (.raw (.cells c _ _)) => if a.spot.isSome then none else c[a.off]?
  | some _ => none
  | none => if a.block < B.heap.size then B.cell? a else none

theorem rd_up (a : Addr) (k : Nat) : rd B (σ.up k) a = rd B σ a := rfl

theorem Rel.cell (h : Rel B w σ) {a : Addr} {v : Value} (hr : rd B σ a = some v) : w.cell? a = some v := by
  unfold rd at hr
  split at hr
  · rename_i c t fz hm
    have := h.raw hm
    simp only [World.cell?, this]
    exact hr
  · cases hr
  · split at hr
    · rename_i hlt
      rw [h.below.cell hlt]; exact hr
    · cases hr

theorem part_upd {own : Nat → Nat} {b : Nat} (o' : Obj) {c : Nat} (hob : own b = b) (hne : c ≠ b) :
    part B { w with heap := w.heap.setIfInBounds b o' } own c = part B w own c := by
  funext x
  unfold part
  split
  · rename_i hx
    have : b ≠ x := fun e => by subst e; exact hne (hx.1.symm.trans hob)
    simp [Array.getElem?_setIfInBounds_ne this]
  · rfl

theorem Rel.upd (h : Rel B w σ) {b : Nat} {o : Obj} (hb : σ.m b = some (.raw o)) (o' : Obj) :
    Rel B { w with heap := w.heap.setIfInBounds b o' } (σ.set b (.raw o')) := by
  obtain ⟨hlo, hhi⟩ := h.low b _ hb
  refine ⟨⟨h.below.os, h.below.tape, h.below.output, by simpa using h.below.size, fun k hk => ?_⟩, by simpa using h.size, ?_, ?_⟩
  · rw [← h.below.block k hk]
    have : b ≠ k := by omega
    simp [Array.getElem?_setIfInBounds_ne this]
  · intro c x hc
    by_cases e : c = b
    · subst e; exact ⟨hlo, hhi⟩
    · rw [St.set_m_ne _ _ e] at hc; exact h.low c x hc
  · obtain ⟨own, ho⟩ := h.own
    refine ⟨own, fun c x hc => ?_⟩
    have hob := (ho b _ hb).1
    by_cases e : c = b
    · subst e
      rw [St.set_m_same] at hc
      cases hc
      have hs := h.size
      refine ⟨hob, ?_⟩
      simp [HP.sat, part, hob, hlo, hs, hhi]
    · rw [St.set_m_ne _ _ e] at hc
      rw [part_upd o' hob e]
      exact ho c x hc

theorem part_new {own : Nat → Nat} (o : Obj) {c : Nat} (hne : c ≠ w.heap.size) :
    part B { w with heap := w.heap.push o } (fun x => if x = w.heap.size then w.heap.size else own x) c = part B w own c := by
  funext x
  unfold part
  by_cases e : x = w.heap.size
  · subst e
    simp [Ne.symm hne]
  · simp only [if_neg e]
    split
    · simp [Array.getElem?_push, e]
    · rfl

theorem Rel.new (h : Rel B w σ) (o : Obj) : Rel B { w with heap := w.heap.push o } (σ.new o) := by
  have hs := h.size
  have hle := h.below.size
  refine ⟨⟨h.below.os, h.below.tape, h.below.output, by simp; omega, fun k hk => ?_⟩, by simp [hs], ?_, ?_⟩
  · rw [← h.below.block k hk]
    simp [Array.getElem?_push]
    omega
  · intro c x hc
    by_cases e : c = σ.n
    · subst e; simp; omega
    · rw [St.new_m_ne _ _ e] at hc
      have := h.low c x hc
      simp; omega
  · obtain ⟨own, ho⟩ := h.own
    refine ⟨fun x => if x = w.heap.size then w.heap.size else own x, fun c x hc => ?_⟩
    by_cases e : c = σ.n
    · subst e
      rw [St.new_m_same] at hc
      cases hc
      refine ⟨by simp [hs], ?_⟩
      have hl : B.heap.size ≤ σ.n := by omega
      have hg : (w.heap.push o)[σ.n]? = some o := by rw [← hs]; simp
      simp only [HP.sat, part, hs, if_true, hl, and_self, hg]
    · rw [St.new_m_ne _ _ e] at hc
      have hlt := (h.low c x hc).2
      have hne : c ≠ w.heap.size := by omega
      rw [part_new o hne]
      refine ⟨?_, (ho c x hc).2⟩
      simp [hne, (ho c x hc).1]

/-- The view with a folded object laid open. -/
def St.over (σ : St) (b : Nat) (h : Heaplet) : St :=
  { σ with m := fun c => match h c with | some o => some (.raw o) | none => if c = b then none else σ.m c }

/-- The view with blocks folded into one object. -/
def St.fold (σ : St) (b : Nat) (h : Heaplet) (R : Heaplet → Prop) : St :=
  { σ with m := fun c => if c = b then some (.comp R) else if (h c).isSome then none else σ.m c }

theorem Rel.opens (h : Rel B w σ) {b : Nat} {R : Heaplet → Prop} (hb : σ.m b = some (.comp R)) :
    ∃ h' : Heaplet, R h' ∧ (∀ c o, h' c = some o → c = b ∨ σ.m c = none) ∧ Rel B w (σ.over b h') := by
  obtain ⟨own, ho⟩ := h.own
  obtain ⟨hob, hR⟩ := ho b _ hb
  have hs := h.size
  have hdom : ∀ c o, part B w own b c = some o → own c = b ∧ B.heap.size ≤ c ∧ w.heap[c]? = some o := by
    intro c o hc
    unfold part at hc
    split at hc
    · rename_i hx; exact ⟨hx.1, hx.2, hc⟩
    · cases hc
  have hlt : ∀ c o, w.heap[c]? = some o → c < σ.n := fun c o hc => by
    rw [← hs]; exact (Array.getElem?_eq_some_iff.1 hc).1
  refine ⟨part B w own b, hR, ?_, h.below, hs, ?_, ?_⟩
  · intro c o hc
    obtain ⟨h1, _, _⟩ := hdom c o hc
    by_cases e : c = b
    · exact .inl e
    · refine .inr ?_
      cases hm : σ.m c with
      | none => rfl
      | some x => exact absurd ((ho c x hm).1.symm.trans h1) e
  · intro c x hc
    simp only [St.over] at hc
    split at hc
    · rename_i o hp
      obtain ⟨_, h2, h3⟩ := hdom c o hp
      exact ⟨h2, hlt c o h3⟩
    · split at hc
      · cases hc
      · exact h.low c x hc
  · refine ⟨fun x => if own x = b then x else own x, fun c x hc => ?_⟩
    simp only [St.over] at hc
    split at hc
    · rename_i o hp
      obtain ⟨h1, h2, h3⟩ := hdom c o hp
      cases hc
      refine ⟨by simp [h1], ?_⟩
      simp [HP.sat, part, h1, h2, h3]
    · split at hc
      · cases hc
      · rename_i e
        obtain ⟨h1, h2⟩ := ho c x hc
        have hcb : own c ≠ b := by rw [h1]; exact e
        refine ⟨by simp [h1, e], ?_⟩
        have : part B w (fun x => if own x = b then x else own x) c = part B w own c := by
          funext y
          unfold part
          by_cases hy : own y = b
          · have : y ≠ c := fun e' => by subst e'; exact hcb hy
            have hbc : b ≠ c := fun e' => e e'.symm
            simp [hy, this, hbc]
          · simp [hy]
        rw [this]
        exact h2

theorem Rel.closes (h : Rel B w σ) (b : Nat) (h' : Heaplet) (hd : ∀ c o, h' c = some o → σ.m c = some (.raw o)) (hb : (h' b).isSome = true)
    {R : Heaplet → Prop} (hR : R h') : Rel B w (σ.fold b h' R) := by
  obtain ⟨own, ho⟩ := h.own
  have hbo : ∃ o, h' b = some o := Option.isSome_iff_exists.1 hb
  obtain ⟨ob, hob⟩ := hbo
  refine ⟨h.below, h.size, ?_, ?_⟩
  · intro c x hc
    simp only [St.fold] at hc
    split at hc
    · rename_i e; subst e; exact h.low _ _ (hd _ _ hob)
    · split at hc
      · cases hc
      · exact h.low c x hc
  · refine ⟨fun x => if (h' x).isSome then b else if own x = b then x else own x, fun c x hc => ?_⟩
    simp only [St.fold] at hc
    split at hc
    · rename_i e
      subst e
      cases hc
      refine ⟨by simp [hob], ?_⟩
      have : part B w (fun x => if (h' x).isSome then c else if own x = c then x else own x) c = h' := by
        funext y
        unfold part
        cases hy : h' y with
        | some o =>
          have hm := hd y o hy
          have hr := h.raw hm
          have hl := (h.low y _ hm).1
          simp only [hy, Option.isSome_some, if_true, hl, and_self, hr]
        | none =>
          have hyc : y ≠ c := fun e' => by subst e'; rw [hob] at hy; cases hy
          simp only [hy, Option.isSome_none, Bool.false_eq_true, if_false]
          by_cases hoy : own y = c
          · simp only [hoy, if_true, hyc, false_and, if_false]
          · simp only [hoy, if_false, false_and]
      simp only [HP.sat, this]
      exact hR
    · rename_i e
      split at hc
      · cases hc
      · rename_i hn
        have hn' : h' c = none := by simpa using hn
        obtain ⟨h1, h2⟩ := ho c x hc
        refine ⟨by simp [hn', h1, e], ?_⟩
        have : part B w (fun x => if (h' x).isSome then b else if own x = b then x else own x) c = part B w own c := by
          funext y
          unfold part
          have hbc : b ≠ c := fun e' => e e'.symm
          cases hy : h' y with
          | some o =>
            have hyo := (ho y _ (hd y o hy)).1
            have hyc : own y ≠ c := fun e' => by
              rw [hyo] at e'; subst e'; rw [hy] at hn'; cases hn'
            simp only [hy, Option.isSome_some, if_true, hbc, false_and, if_false, hyc]
          | none =>
            by_cases hoy : own y = b
            · have hyc : y ≠ c := fun e' => by subst e'; rw [h1] at hoy; exact e hoy
              simp only [hy, Option.isSome_none, Bool.false_eq_true, if_false, hoy, if_true, hyc, hbc, false_and]
            · simp only [hy, Option.isSome_none, Bool.false_eq_true, if_false, hoy]
        rw [this]
        exact h2
end

/-- Whatever world agrees with the one view agrees with the other. -/
def To (B : World) (σ σ' : St) : Prop := ∀ w, Rel B w σ → Rel B w σ'
theorem To.refl (B : World) (σ : St) : To B σ σ := fun _ h => h
theorem To.trans {B : World} {σ σ' σ'' : St} (h : To B σ σ') (h' : To B σ' σ'') : To B σ σ'' := fun w hw => h' w (h w hw)
theorem To.sub {B : World} {σ σ' : St} (hn : σ'.n = σ.n) (hs : ∀ b x, σ'.m b = some x → σ.m b = some x) : To B σ σ' := fun _ h => h.sub hn hs
theorem To.fold {B : World} {σ : St} (b : Nat) (h' : Heaplet) (hd : ∀ c o, h' c = some o → σ.m c = some (.raw o)) (hb : (h' b).isSome = true)
    {R : Heaplet → Prop} (hR : R h') : To B σ (σ.fold b h' R) := fun _ h => h.closes b h' hd hb hR

end Go.Proofs.YtdbgeahmhfocaaaGreat
