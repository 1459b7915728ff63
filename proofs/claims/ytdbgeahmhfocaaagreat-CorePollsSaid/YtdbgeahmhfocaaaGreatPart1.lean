/- The texts of this proof, part 1: the engine, the walks and the plain laws, in their order. -/
import Derived.OrdersIn
import Derived.RangeFuncLeaves
import Derived.Below
import Derived.KernelRfl
import Derived.Laws.Entries
import Derived.Laws.StructEq
import Derived.ChangeKeysEq
import Derived.Deep.AppendSrc
import Derived.StillTail
import Derived.Scope
/- The view of memory under all proofs of this seat: a partial map from blocks to what they hold, which is either a block as it lies or a folded object; a world agrees with it. -/
namespace Go.Proofs.YtdbgeahmhfocaaaGreat
set_option linter.unusedSimpArgs false
set_option linter.unusedVariables false
open Go Go.RowKit

abbrev Heaplet := Nat → Option Obj

/-- What a block holds: itself, or a folded object over blocks that it owns. -/
inductive HP where
  | raw (o : Obj)
  | comp (R : Heaplet → Prop)

def HP.sat (b : Nat) (h : Heaplet) : HP → Prop
  | .raw o => h b = some o
  | .comp R => R h

structure St where
  m : Nat → Option HP
  n : Nat

namespace St
def set (σ : St) (b : Nat) (x : HP) : St := { σ with m := fun c => if c = b then some x else σ.m c }
def new (σ : St) (o : Obj) : St := { m := fun c => if c = σ.n then some (.raw o) else σ.m c, n := σ.n + 1 }
def up (σ : St) (k : Nat) : St := { σ with n := k }
def wf (B : World) (σ : St) : Prop := B.heap.size ≤ σ.n ∧ ∀ b x, σ.m b = some x → B.heap.size ≤ b ∧ b < σ.n

@[simp, go_sem] theorem set_n (σ : St) (b : Nat) (x : HP) : (σ.set b x).n = σ.n := rfl
@[simp, go_sem] theorem new_n (σ : St) (o : Obj) : (σ.new o).n = σ.n + 1 := rfl
@[simp, go_sem] theorem up_n (σ : St) (k : Nat) : (σ.up k).n = k := rfl
@[simp, go_sem] theorem up_m (σ : St) (k : Nat) : (σ.up k).m = σ.m := rfl
@[simp, go_sem] theorem up_up (σ : St) (j k : Nat) : (σ.up j).up k = σ.up k := rfl
@[simp, go_sem] theorem up_self (σ : St) : σ.up σ.n = σ := rfl
@[simp, go_sem] theorem up_set (σ : St) (k b : Nat) (x : HP) : (σ.up k).set b x = (σ.set b x).up k := rfl
@[simp, go_sem] theorem set_m_same (σ : St) (b : Nat) (x : HP) : (σ.set b x).m b = some x := by simp [set]
theorem set_m_ne (σ : St) {b c : Nat} (x : HP) (h : c ≠ b) : (σ.set b x).m c = σ.m c := by simp [set, h]
@[simp, go_sem] theorem new_m_same (σ : St) (o : Obj) : (σ.new o).m σ.n = some (.raw o) := by simp [new]
theorem new_m_ne (σ : St) {c : Nat} (o : Obj) (h : c ≠ σ.n) : (σ.new o).m c = σ.m c := by simp [new, h]
@[simp, go_sem] theorem set_set (σ : St) (b : Nat) (x y : HP) : (σ.set b x).set b y = σ.set b y := by
  simp only [set, mk.injEq, and_true]; funext c; split <;> rfl
@[simp, go_sem] theorem new_set (σ : St) (o o' : Obj) : (σ.new o).set σ.n (.raw o') = σ.new o' := by
  simp only [set, new, mk.injEq, and_true]; funext c; split <;> rfl
end St

def part (B w : World) (own : Nat → Nat) (b : Nat) : Heaplet := fun c => if own c = b ∧ B.heap.size ≤ c then w.heap[c]? else none

/-- The world 'w' is as the view says, and below the base's size it is as the base was. -/
structure Rel (B w : World) (σ : St) : Prop where
  below : Below B.heap.size B w
  size : w.heap.size = σ.n
  low : ∀ b x, σ.m b = some x → B.heap.size ≤ b ∧ b < σ.n
  own : ∃ own : Nat → Nat, ∀ b x, σ.m b = some x → own b = b ∧ x.sat b (part B w own b)

section
variable {B w : World} {σ : St}

theorem Rel.wf (h : Rel B w σ) : σ.wf B := ⟨h.size ▸ h.below.size, h.low⟩

theorem Rel.start (B : World) : Rel B B { m := fun _ => none, n := B.heap.size } :=
  ⟨Below.refl _ _, rfl, fun _ _ h => by simp at h, id, fun _ _ h => by simp at h⟩

theorem Rel.raw (h : Rel B w σ) {b : Nat} {o : Obj} (hb : σ.m b = some (.raw o)) : w.heap[b]? = some o := by
  obtain ⟨own, ho⟩ := h.own
  obtain ⟨h1, h2⟩ := ho b _ hb
  have h3 := (h.low b _ hb).1
  simpa [HP.sat, part, h1, h3] using h2

theorem Rel.drawn (h : Rel B w σ) (k : Nat) : Rel B { w with drawn := k } σ :=
  ⟨⟨h.below.os, h.below.tape, h.below.output, h.below.size, h.below.block⟩, h.size, h.low, h.own⟩

theorem Rel.sub (h : Rel B w σ) {σ' : St} (hn : σ'.n = σ.n) (hs : ∀ b x, σ'.m b = some x → σ.m b = some x) : Rel B w σ' :=
  ⟨h.below, h.size.trans hn.symm, fun b x hb => hn ▸ h.low b x (hs b x hb), let ⟨own, ho⟩ := h.own; ⟨own, fun b x hb => ho b x (hs b x hb)⟩⟩

/-- What lies at an address, by the view. -/
def rd (B : World) (σ : St) (a : Addr) : Option Value :=
  match σ.m a.block with
  | some (.raw (.cells c _ _)) => if a.spot.isSome then none else c[a.off]?
  | some _ => none
  | none => if a.block < B.heap.size then B.cell? a else none

theorem rd_up (a : Addr) (k : Nat) : rd B (σ.up k) a = rd B σ a := rfl

theorem Rel.cell (h : Rel B w σ) {a : Addr} {v : Value} (hr : rd B σ a = some v) : w.cell? a = some v := by
  unfold rd at hr
  split at hr
  · rename_i c t fz hm
    have := h.raw hm
    simp only [World.cell?, this]
    exact hr
  · cases hr
  · split at hr
    · rename_i hlt
      rw [h.below.cell hlt]; exact hr
    · cases hr

theorem part_upd {own : Nat → Nat} {b : Nat} (o' : Obj) {c : Nat} (hob : own b = b) (hne : c ≠ b) :
    part B { w with heap := w.heap.setIfInBounds b o' } own c = part B w own c := by
  funext x
  unfold part
  split
  · rename_i hx
    have : b ≠ x := fun e => by subst e; exact hne (hx.1.symm.trans hob)
    simp [Array.getElem?_setIfInBounds_ne this]
  · rfl

theorem Rel.upd (h : Rel B w σ) {b : Nat} {o : Obj} (hb : σ.m b = some (.raw o)) (o' : Obj) :
    Rel B { w with heap := w.heap.setIfInBounds b o' } (σ.set b (.raw o')) := by
  obtain ⟨hlo, hhi⟩ := h.low b _ hb
  refine ⟨⟨h.below.os, h.below.tape, h.below.output, by simpa using h.below.size, fun k hk => ?_⟩, by simpa using h.size, ?_, ?_⟩
  · rw [← h.below.block k hk]
    have : b ≠ k := by omega
    simp [Array.getElem?_setIfInBounds_ne this]
  · intro c x hc
    by_cases e : c = b
    · subst e; exact ⟨hlo, hhi⟩
    · rw [St.set_m_ne _ _ e] at hc; exact h.low c x hc
  · obtain ⟨own, ho⟩ := h.own
    refine ⟨own, fun c x hc => ?_⟩
    have hob := (ho b _ hb).1
    by_cases e : c = b
    · subst e
      rw [St.set_m_same] at hc
      cases hc
      have hs := h.size
      refine ⟨hob, ?_⟩
      simp [HP.sat, part, hob, hlo, hs, hhi]
    · rw [St.set_m_ne _ _ e] at hc
      rw [part_upd o' hob e]
      exact ho c x hc

theorem part_new {own : Nat → Nat} (o : Obj) {c : Nat} (hne : c ≠ w.heap.size) :
    part B { w with heap := w.heap.push o } (fun x => if x = w.heap.size then w.heap.size else own x) c = part B w own c := by
  funext x
  unfold part
  by_cases e : x = w.heap.size
  · subst e
    simp [Ne.symm hne]
  · simp only [if_neg e]
    split
    · simp [Array.getElem?_push, e]
    · rfl

theorem Rel.new (h : Rel B w σ) (o : Obj) : Rel B { w with heap := w.heap.push o } (σ.new o) := by
  have hs := h.size
  have hle := h.below.size
  refine ⟨⟨h.below.os, h.below.tape, h.below.output, by simp; omega, fun k hk => ?_⟩, by simp [hs], ?_, ?_⟩
  · rw [← h.below.block k hk]
    simp [Array.getElem?_push]
    omega
  · intro c x hc
    by_cases e : c = σ.n
    · subst e; simp; omega
    · rw [St.new_m_ne _ _ e] at hc
      have := h.low c x hc
      simp; omega
  · obtain ⟨own, ho⟩ := h.own
    refine ⟨fun x => if x = w.heap.size then w.heap.size else own x, fun c x hc => ?_⟩
    by_cases e : c = σ.n
    · subst e
      rw [St.new_m_same] at hc
      cases hc
      refine ⟨by simp [hs], ?_⟩
      have hl : B.heap.size ≤ σ.n := by omega
      have hg : (w.heap.push o)[σ.n]? = some o := by rw [← hs]; simp
      simp only [HP.sat, part, hs, if_true, hl, and_self, hg]
    · rw [St.new_m_ne _ _ e] at hc
      have hlt := (h.low c x hc).2
      have hne : c ≠ w.heap.size := by omega
      rw [part_new o hne]
      refine ⟨?_, (ho c x hc).2⟩
      simp [hne, (ho c x hc).1]

/-- The view with a folded object laid open. -/
def St.over (σ : St) (b : Nat) (h : Heaplet) : St :=
  { σ with m := fun c => match h c with | some o => some (.raw o) | none => if c = b then none else σ.m c }

/-- The view with blocks folded into one object. -/
def St.fold (σ : St) (b : Nat) (h : Heaplet) (R : Heaplet → Prop) : St :=
  { σ with m := fun c => if c = b then some (.comp R) else if (h c).isSome then none else σ.m c }

theorem Rel.opens (h : Rel B w σ) {b : Nat} {R : Heaplet → Prop} (hb : σ.m b = some (.comp R)) :
    ∃ h' : Heaplet, R h' ∧ (∀ c o, h' c = some o → c = b ∨ σ.m c = none) ∧ Rel B w (σ.over b h') := by
  obtain ⟨own, ho⟩ := h.own
  obtain ⟨hob, hR⟩ := ho b _ hb
  have hs := h.size
  have hdom : ∀ c o, part B w own b c = some o → own c = b ∧ B.heap.size ≤ c ∧ w.heap[c]? = some o := by
    intro c o hc
    unfold part at hc
    split at hc
    · rename_i hx; exact ⟨hx.1, hx.2, hc⟩
    · cases hc
  have hlt : ∀ c o, w.heap[c]? = some o → c < σ.n := fun c o hc => by
    rw [← hs]; exact (Array.getElem?_eq_some_iff.1 hc).1
  refine ⟨part B w own b, hR, ?_, h.below, hs, ?_, ?_⟩
  · intro c o hc
    obtain ⟨h1, _, _⟩ := hdom c o hc
    by_cases e : c = b
    · exact .inl e
    · refine .inr ?_
      cases hm : σ.m c with
      | none => rfl
      | some x => exact absurd ((ho c x hm).1.symm.trans h1) e
  · intro c x hc
    simp only [St.over] at hc
    split at hc
    · rename_i o hp
      obtain ⟨_, h2, h3⟩ := hdom c o hp
      exact ⟨h2, hlt c o h3⟩
    · split at hc
      · cases hc
      · exact h.low c x hc
  · refine ⟨fun x => if own x = b then x else own x, fun c x hc => ?_⟩
    simp only [St.over] at hc
    split at hc
    · rename_i o hp
      obtain ⟨h1, h2, h3⟩ := hdom c o hp
      cases hc
      refine ⟨by simp [h1], ?_⟩
      simp [HP.sat, part, h1, h2, h3]
    · split at hc
      · cases hc
      · rename_i e
        obtain ⟨h1, h2⟩ := ho c x hc
        have hcb : own c ≠ b := by rw [h1]; exact e
        refine ⟨by simp [h1, e], ?_⟩
        have : part B w (fun x => if own x = b then x else own x) c = part B w own c := by
          funext y
          unfold part
          by_cases hy : own y = b
          · have : y ≠ c := fun e' => by subst e'; exact hcb hy
            have hbc : b ≠ c := fun e' => e e'.symm
            simp [hy, this, hbc]
          · simp [hy]
        rw [this]
        exact h2

theorem Rel.closes (h : Rel B w σ) (b : Nat) (h' : Heaplet) (hd : ∀ c o, h' c = some o → σ.m c = some (.raw o)) (hb : (h' b).isSome = true)
    {R : Heaplet → Prop} (hR : R h') : Rel B w (σ.fold b h' R) := by
  obtain ⟨own, ho⟩ := h.own
  have hbo : ∃ o, h' b = some o := Option.isSome_iff_exists.1 hb
  obtain ⟨ob, hob⟩ := hbo
  refine ⟨h.below, h.size, ?_, ?_⟩
  · intro c x hc
    simp only [St.fold] at hc
    split at hc
    · rename_i e; subst e; exact h.low _ _ (hd _ _ hob)
    · split at hc
      · cases hc
      · exact h.low c x hc
  · refine ⟨fun x => if (h' x).isSome then b else if own x = b then x else own x, fun c x hc => ?_⟩
    simp only [St.fold] at hc
    split at hc
    · rename_i e
      subst e
      cases hc
      refine ⟨by simp [hob], ?_⟩
      have : part B w (fun x => if (h' x).isSome then c else if own x = c then x else own x) c = h' := by
        funext y
        unfold part
        cases hy : h' y with
        | some o =>
          have hm := hd y o hy
          have hr := h.raw hm
          have hl := (h.low y _ hm).1
          simp only [hy, Option.isSome_some, if_true, hl, and_self, hr]
        | none =>
          have hyc : y ≠ c := fun e' => by subst e'; rw [hob] at hy; cases hy
          simp only [hy, Option.isSome_none, Bool.false_eq_true, if_false]
          by_cases hoy : own y = c
          · simp only [hoy, if_true, hyc, false_and, if_false]
          · simp only [hoy, if_false, false_and]
      simp only [HP.sat, this]
      exact hR
    · rename_i e
      split at hc
      · cases hc
      · rename_i hn
        have hn' : h' c = none := by simpa using hn
        obtain ⟨h1, h2⟩ := ho c x hc
        refine ⟨by simp [hn', h1, e], ?_⟩
        have : part B w (fun x => if (h' x).isSome then b else if own x = b then x else own x) c = part B w own c := by
          funext y
          unfold part
          have hbc : b ≠ c := fun e' => e e'.symm
          cases hy : h' y with
          | some o =>
            have hyo := (ho y _ (hd y o hy)).1
            have hyc : own y ≠ c := fun e' => by
              rw [hyo] at e'; subst e'; rw [hy] at hn'; cases hn'
            simp only [hy, Option.isSome_some, if_true, hbc, false_and, if_false, hyc]
          | none =>
            by_cases hoy : own y = b
            · have hyc : y ≠ c := fun e' => by subst e'; rw [h1] at hoy; exact e hoy
              simp only [hy, Option.isSome_none, Bool.false_eq_true, if_false, hoy, if_true, hyc, hbc, false_and]
            · simp only [hy, Option.isSome_none, Bool.false_eq_true, if_false, hoy]
        rw [this]
        exact h2
end

/-- Whatever world agrees with the one view agrees with the other. -/
def To (B : World) (σ σ' : St) : Prop := ∀ w, Rel B w σ → Rel B w σ'
theorem To.refl (B : World) (σ : St) : To B σ σ := fun _ h => h
theorem To.trans {B : World} {σ σ' σ'' : St} (h : To B σ σ') (h' : To B σ' σ'') : To B σ σ'' := fun w hw => h' w (h w hw)
theorem To.sub {B : World} {σ σ' : St} (hn : σ'.n = σ.n) (hs : ∀ b x, σ'.m b = some x → σ.m b = some x) : To B σ σ' := fun _ h => h.sub hn hs
theorem To.fold {B : World} {σ : St} (b : Nat) (h' : Heaplet) (hd : ∀ c o, h' c = some o → σ.m c = some (.raw o)) (hb : (h' b).isSome = true)
    {R : Heaplet → Prop} (hR : R h') : To B σ (σ.fold b h' R) := fun _ h => h.closes b h' hd hb hR

end Go.Proofs.YtdbgeahmhfocaaaGreat

/- What each quiet operation yields, by the view of memory: a plain function; and that the machine's own operation yields just that. -/
namespace Go.Proofs.YtdbgeahmhfocaaaGreat
set_option linter.unusedSimpArgs false
set_option linter.unusedVariables false
open Go Go.RowKit

/-! ### Facts about types -/
inductive Kd where
  | bool | int (k : IntKind) | string | pointer | slice | array | map | struct | func | iface | other
  deriving DecidableEq

def kd (P : Program) (t : TypeId) : Kd :=
  match P.underlying t with
  | some .bool => .bool
  | some (.int k) => .int k
  | some .string => .string
  | some (.pointer _) => .pointer
  | some (.slice _) => .slice
  | some (.array _ _) => .array
  | some (.map _ _) => .map
  | some (.struct _) => .struct
  | some (.func _ _ _) => .func
  | some (.interface _) => .iface
  | _ => .other

/-- Is it a struct or an array, and how many cells has it? -/
def tk (P : Program) (t : TypeId) : Option (Bool × Nat) :=
  match P.underlying t with
  | none => none
  | some (.struct _) => (P.info? t).map fun i => (true, i.size)
  | some (.array _ _) => (P.info? t).map fun i => (true, i.size)
  | some _ => (P.info? t).map fun i => (false, i.size)

def zr (P : Program) (t : TypeId) : Option Value := (P.info? t).bind (·.zero)

/-- A field's offset. -/
def fo (P : Program) (s f : Nat) : Option Nat :=
  match P.underlying s with
  | some (.struct fs) =>
    match fs[f]? with
    | some fd => (P.info? fd.type).bind fun i => if i.size = 0 then none else some fd.offset
    | none => none
  | _ => none

/-- A field of a struct's value: its offset; its cells, if it is a struct or an array itself. -/
def fk (P : Program) (s f : Nat) : Option (Nat × Option Nat) :=
  match P.underlying s with
  | some (.struct fs) =>
    match fs[f]? with
    | some fd => (tk P fd.type).map fun (agg, n) => (fd.offset, if agg then some n else none)
    | none => none
  | _ => none

/-- What is indexed: an array of so many elements, or a slice; an element's cells, and whether it is a struct or an array. -/
def ik (P : Program) (t : TypeId) : Option (Option Nat × Nat × Bool) :=
  match P.underlying t with
  | some (.array n e) => (tk P e).map fun (agg, s) => (some n, s, agg)
  | some (.slice e) => (tk P e).map fun (agg, s) => (none, s, agg)
  | _ => none

section
variable {P : Program} {w : World}

theorem run_und {t : TypeId} {d : TypeDesc} (h : P.underlying t = some d) : (underlying t).run P w = .ok d w := run_underlying h w
theorem run_tyi {t : TypeId} {i : TypeInfo} (h : P.info? t = some i) : (typeInfo t).run P w = .ok i w := by simp [typeInfo, h]
theorem run_sz {t : TypeId} {i : TypeInfo} (h : P.info? t = some i) : (sizeOf t).run P w = .ok i.size w := by simp [sizeOf, run_tyi h]
theorem run_zr {t : TypeId} {z : Value} (h : zr P t = some z) : (zeroValue t).run P w = .ok z w := by
  unfold zr at h
  cases hi : P.info? t with
  | none => simp [hi] at h
  | some i => simp [hi] at h; simp [zeroValue, run_tyi hi, h]

theorem tk_spec {t : TypeId} {b : Bool} {n : Nat} (h : tk P t = some (b, n)) :
    ∃ d i, P.underlying t = some d ∧ P.info? t = some i ∧ i.size = n ∧ (isAgg t).run P w = .ok b w := by
  unfold tk at h
  split at h
  · cases h
  · rename_i fs hu
    cases hi : P.info? t with
    | none => simp [hi] at h
    | some i => simp [hi] at h; exact ⟨_, i, hu, rfl, h.2, by simp [isAgg, run_und hu, h.1]⟩
  · rename_i k e hu
    cases hi : P.info? t with
    | none => simp [hi] at h
    | some i => simp [hi] at h; exact ⟨_, i, hu, rfl, h.2, by simp [isAgg, run_und hu, h.1]⟩
  · rename_i d h1 h2 hu
    cases hi : P.info? t with
    | none => simp [hi] at h
    | some i =>
      simp [hi] at h
      refine ⟨_, i, hu, rfl, h.2, ?_⟩
      cases d <;> first | (simp [isAgg, run_und hu, h.1]; done) | exact (h1 _ rfl).elim | exact (h2 _ _ rfl).elim
end

/-! ### Loads -/
/-- So many cells from an address on. -/
def rds (B : World) (σ : St) (a : Addr) : Nat → Nat → Option (List Value)
  | _, 0 => some []
  | i, n + 1 => (rd B σ (a.add i)).bind fun v => (rds B σ a (i + 1) n).map fun l => v :: l

def ldv (P : Program) (B : World) (σ : St) (t : TypeId) (a : Addr) : Option Value :=
  match tk P t with
  | some (true, n) => (rds B σ a 0 n).map fun l => .agg l.toArray
  | some (false, _) => rd B σ a
  | none => none

section
variable {P : Program} {B w : World} {σ : St}

theorem run_loadCells (h : Rel B w σ) (a : Addr) : ∀ (n i : Nat) (acc : Array Value) (l : List Value), rds B σ a i n = some l →
    (loadCellsFrom a i n acc).run P w = .ok (acc ++ l.toArray) w
  | 0, i, acc, l, hl => by simp [rds] at hl; subst hl; simp [loadCellsFrom]
  | n + 1, i, acc, l, hl => by
    simp only [rds, Option.bind_eq_some_iff, Option.map_eq_some_iff] at hl
    obtain ⟨v, hv, l', hl', rfl⟩ := hl
    simp [loadCellsFrom, h.cell hv, run_loadCells h a n (i + 1) _ l' hl']

theorem run_ldv (h : Rel B w σ) {t : TypeId} {a : Addr} {v : Value} (hv : ldv P B σ t a = some v) : (loadVar t a).run P w = .ok v w := by
  unfold ldv at hv
  split at hv
  · rename_i n ht
    obtain ⟨d, i, hu, hi, hn, hag⟩ := tk_spec (w := w) ht
    simp only [Option.map_eq_some_iff] at hv
    obtain ⟨l, hl, rfl⟩ := hv
    subst hn
    simp only [loadVar, Sem.run_bind, hag, Result.andThen_ok, if_true, run_sz hi, Sem.run_pure, loadCells]
    simp [run_loadCells h a _ 0 #[] l hl]
  · rename_i n ht
    obtain ⟨d, i, hu, hi, hn, hag⟩ := tk_spec (w := w) ht
    simp [loadVar, hag, h.cell hv]
  · cases hv
end

/-! ### Arithmetic, comparisons -/
def ib (op : BinOp) (k : IntKind) (a b : Int) : Option Value :=
  match op with
  | .add => some (.int k (k.wrap (a + b)))
  | .sub => some (.int k (k.wrap (a - b)))
  | .mul => some (.int k (k.wrap (a * b)))
  | .quo => if b = 0 then none else some (.int k (k.wrap (a.tdiv b)))
  | .rem => if b = 0 then none else some (.int k (a.tmod b))
  | .eql => some (.bool (a == b))
  | .neq => some (.bool (a != b))
  | .lss => some (.bool (a < b))
  | .leq => some (.bool (a ≤ b))
  | .gtr => some (.bool (a > b))
  | .geq => some (.bool (a ≥ b))
  | _ => none

def sb (op : BinOp) (x y : ByteArray) : Option Value :=
  match op with
  | .add => if ((x.size + y.size : Nat) : Int) > IntKind.i64.max then none else some (.string (x ++ y))
  | .eql => some (.bool (x.toList == y.toList))
  | .neq => some (.bool !(x.toList == y.toList))
  | .lss => some (.bool (Op.bytesLess x.toList y.toList))
  | .leq => some (.bool (Op.bytesLess x.toList y.toList || x.toList == y.toList))
  | .gtr => some (.bool !(Op.bytesLess x.toList y.toList || x.toList == y.toList))
  | .geq => some (.bool !(Op.bytesLess x.toList y.toList))
  | _ => none

/-- '==' on what is neither a number nor a text. -/
def eqv (k : Kd) (x y : Value) : Option Bool :=
  match k, x, y with
  | .bool, .bool a, .bool b => some (a == b)
  | .pointer, .pointer none, .pointer b => some b.isNone
  | .pointer, .pointer (some _), .pointer none => some false
  | .func, .nilFunc, .nilFunc => some true
  | .func, .nilFunc, .func _ _ _ => some false
  | .func, .func _ _ _, .nilFunc => some false
  | .slice, .slice none _ _, .slice b _ _ => some b.isNone
  | .slice, .slice (some _) _ _, .slice none _ _ => some false
  | .map, .map none, .map b => some b.isNone
  | .map, .map (some _), .map none => some false
  | _, _, _ => none

/-- A part of a struct's cells. -/
def prt (P : Program) (t : TypeId) (cs : Array Value) (off : Nat) : Option Value :=
  match tk P t with
  | some (true, n) => some (.agg (cs.extract off (off + n)))
  | some (false, _) => cs[off]?
  | none => none
def eqFs (P : Program) (g : TypeId → Value → Value → Option Bool) (xs ys : Array Value) : List Field → Option Bool
  | [] => some true
  | f :: fs =>
    if f.name ≠ "_" then
      match prt P f.type xs f.offset, prt P f.type ys f.offset with
      | some a, some b => match g f.type a b with | some true => eqFs P g xs ys fs | some false => some false | none => none
      | _, _ => none
    else eqFs P g xs ys fs
def eqIs (P : Program) (g : TypeId → Value → Value → Option Bool) (e : TypeId) (c : Nat) (xs ys : Array Value) : List Nat → Option Bool
  | [] => some true
  | i :: is =>
    match prt P e xs (i * c), prt P e ys (i * c) with
    | some a, some b => match g e a b with | some true => eqIs P g e c xs ys is | some false => some false | none => none
    | _, _ => none
/-- '==' on structs and arrays of numbers, texts and bools. -/
def eqD (P : Program) : Nat → TypeId → Value → Value → Option Bool
  | 0, _, _, _ => none
  | d + 1, t, x, y =>
    match P.underlying t, x, y with
    | some (.int _), .int k a, .int k' b => if k = k' then some (a == b) else none
    | some .bool, .bool a, .bool b => some (a == b)
    | some .string, .string a, .string b => some (a == b)
    | some (.struct fs), .agg xs, .agg ys => if P.stoodInHeld t then none else eqFs P (fun t a b => eqD P d t a b) xs ys fs.toList
    | some (.array n e), .agg xs, .agg ys => if (P.info? e).isNone then none else eqIs P (fun t a b => eqD P d t a b) e (P.cellsOf e) xs ys (List.range n)
    | _, _, _ => none
def eqA (P : Program) (t : TypeId) (xs ys : Array Value) : Option Bool := if P.eqGuardType P.depth t then none else eqD P 4 t (.agg xs) (.agg ys)
def isAg : Value → Bool
  | .agg _ => true
  | _ => false

def bin (P : Program) (op : BinOp) (t : TypeId) (x y : Value) : Option Value :=
  match x, y with
  | .int k a, .int k' b => if k = k' ∧ op ≠ .shl ∧ op ≠ .shr then ib op k a b else none
  | .string a, .string b => sb op a b
  | .agg xs, .agg ys =>
    match op with
    | .eql => (eqA P t xs ys).map .bool
    | .neq => (eqA P t xs ys).map fun b => .bool !b
    | _ => none
  | x, y =>
    match op with
    | .eql => (eqv (kd P t) x y).map .bool
    | .neq => (eqv (kd P t) x y).map fun b => .bool !b
    | _ => none

section
variable {P : Program} {w : World}

def kdIs : Kd → TypeDesc → Prop
  | .bool, .bool => True | .int j, .int i => i = j | .string, .string => True | .pointer, .pointer _ => True | .slice, .slice _ => True | .array, .array _ _ => True
  | .map, .map _ _ => True | .struct, .struct _ => True | .func, .func _ _ _ => True | .iface, .interface _ => True | _, _ => False

theorem kd_und {t : TypeId} {k : Kd} (h : kd P t = k) (hk : k ≠ .other) : ∃ d, P.underlying t = some d ∧ kdIs k d := by
  unfold kd at h
  split at h <;> first | (subst h; exact ⟨_, by assumption, by simp [kdIs]⟩) | exact absurd h.symm hk

theorem run_eqv {t : TypeId} {x y : Value} {b : Bool} (h : eqv (kd P t) x y = some b) : (Op.equal t x y).run P w = .ok b w := by
  obtain ⟨k, hk⟩ : ∃ k, kd P t = k := ⟨_, rfl⟩
  rw [hk] at h
  have hne : k ≠ .other := fun e => by subst e; unfold eqv at h; split at h <;> first | contradiction | cases h
  obtain ⟨d, hu, hd⟩ := kd_und hk hne
  clear hk
  unfold eqv at h
  split at h <;> first | contradiction | (cases d <;> first | exact hd.elim | (cases h; unfold Op.equal Op.maxDepth Op.equalIn; simp only [Sem.run_bind, run_und hu, Result.andThen_ok, Sem.run_pure]))

theorem run_prt {t : TypeId} {cs : Array Value} {off : Nat} {v : Value} (h : prt P t cs off = some v) : (Go.part t cs off).run P w = .ok v w := by
  unfold prt at h
  split at h
  · rename_i n ht
    obtain ⟨d, i, hu, hi, hn, hag⟩ := tk_spec (w := w) ht
    cases h
    simp [Go.part, hag, run_sz hi, hn]
  · rename_i n ht
    obtain ⟨d, i, hu, hi, hn, hag⟩ := tk_spec (w := w) ht
    simp [Go.part, hag, h]
  · cases h
theorem run_eqFs {d : Nat} {g : TypeId → Value → Value → Option Bool} (hg : ∀ t x y b, g t x y = some b → (Op.equalIn d t x y).run P w = .ok b w) (xs ys : Array Value) :
    ∀ (fs : List Field) (b : Bool), eqFs P g xs ys fs = some b → (Op.eqFields d xs ys fs).run P w = .ok b w
  | [], b, h => by simp only [eqFs, Option.some.injEq] at h; subst h; rfl
  | f :: fs, b, h => by
    unfold eqFs at h
    unfold Op.eqFields
    by_cases hn : f.name ≠ "_"
    · rw [if_pos hn] at h ⊢
      split at h <;> first | contradiction | skip
      rename_i a c ha hc
      have h3 : ∀ r, g f.type a c = some r → (Op.equalIn d f.type a c).run P w = .ok r w := fun r hr => hg _ _ _ _ hr
      split at h <;> first | contradiction | skip
      · rename_i hr
        simp only [Sem.run_bind, run_prt ha, run_prt hc, Result.andThen_ok, h3 _ hr, Bool.not_true, Bool.false_eq_true, if_false]
        exact run_eqFs hg xs ys fs b h
      · rename_i hr
        cases h
        simp only [Sem.run_bind, run_prt ha, run_prt hc, Result.andThen_ok, h3 _ hr, Bool.not_false, if_true, Sem.run_pure]
    · rw [if_neg hn] at h ⊢
      exact run_eqFs hg xs ys fs b h
theorem run_eqIs {d : Nat} {g : TypeId → Value → Value → Option Bool} (hg : ∀ t x y b, g t x y = some b → (Op.equalIn d t x y).run P w = .ok b w) (e : TypeId) (c : Nat) (xs ys : Array Value) :
    ∀ (is : List Nat) (b : Bool), eqIs P g e c xs ys is = some b → (Op.eqItems d e c xs ys is).run P w = .ok b w
  | [], b, h => by simp only [eqIs, Option.some.injEq] at h; subst h; rfl
  | i :: is, b, h => by
    unfold eqIs at h
    unfold Op.eqItems
    split at h <;> first | contradiction | skip
    rename_i a r ha hr
    have h3 : ∀ q, g e a r = some q → (Op.equalIn d e a r).run P w = .ok q w := fun q hq => hg _ _ _ _ hq
    split at h <;> first | contradiction | skip
    · rename_i hq
      simp only [Sem.run_bind, run_prt ha, run_prt hr, Result.andThen_ok, h3 _ hq, Bool.not_true, Bool.false_eq_true, if_false]
      exact run_eqIs hg e c xs ys is b h
    · rename_i hq
      cases h
      simp only [Sem.run_bind, run_prt ha, run_prt hr, Result.andThen_ok, h3 _ hq, Bool.not_false, if_true, Sem.run_pure]
theorem run_eqD : ∀ (d k : Nat) (t : TypeId) (x y : Value) (b : Bool), eqD P d t x y = some b → (Op.equalIn (d + k) t x y).run P w = .ok b w
  | 0, _, _, _, _, _, h => by simp [eqD] at h
  | d + 1, k, t, x, y, b, h => by
    have hd : d + 1 + k = (d + k) + 1 := by omega
    rw [hd]
    unfold eqD at h
    split at h <;> first | contradiction | skip
    · rename_i ki k1 a k2 c hu
      split at h <;> first | contradiction | skip
      rename_i hk; subst hk; cases h
      exact run_equalIn_int w _ _ _ _ _ _ hu
    · rename_i a c hu
      cases h
      exact run_equalIn_bool' w _ _ _ _ hu
    · rename_i a c hu
      cases h
      rw [run_equalIn_string w _ _ _ _ hu, beq_toListBytes]
    · rename_i fs xs ys hu
      split at h <;> first | contradiction | skip
      rename_i hs
      have hf : P.fieldsOf t = fs := by simp [Program.fieldsOf, hu]
      rw [run_equalIn_struct w _ _ _ _ (by rw [hf]; exact hu) (by simpa using hs), hf]
      exact run_eqFs (fun t x y b hb => run_eqD d k t x y b hb) xs ys _ _ h
    · rename_i n e xs ys hu
      split at h <;> first | contradiction | skip
      rename_i hs
      obtain ⟨i, hi⟩ : ∃ i, P.info? e = some i := by
        cases hx : P.info? e with
        | none => rw [hx] at hs; exact absurd rfl hs
        | some i => exact ⟨i, rfl⟩
      rw [run_equalIn_array w (d + k) xs ys hu hi]
      exact run_eqIs (fun t x y b hb => run_eqD d k t x y b hb) e _ xs ys _ _ h
theorem eqA_spec {t : TypeId} {xs ys : Array Value} {b : Bool} (h : eqA P t xs ys = some b) : P.eqGuardType P.depth t = false ∧ (Op.equalIn 10000 t (.agg xs) (.agg ys)).run P w = .ok b w := by
  unfold eqA at h
  split at h <;> first | contradiction | skip
  rename_i hg
  exact ⟨by simpa using hg, run_eqD 4 9996 t _ _ b h⟩

theorem run_ib {op : BinOp} {k : IntKind} {a b : Int} {v : Value} (t : TypeId) (hs : op ≠ .shl ∧ op ≠ .shr) (h : ib op k a b = some v) :
    (binOp op t (.int k a) (.int k b)).run P w = .ok v w := by
  unfold ib at h
  cases op <;> simp_all [binOp, Op.intArith, Op.intDiv, Op.intCmp]

theorem run_sb {op : BinOp} {x y : ByteArray} {v : Value} (t : TypeId) (h : sb op x y = some v) :
    (binOp op t (.string x) (.string y)).run P w = .ok v w := by
  unfold sb at h
  cases op <;> simp_all [binOp, Op.stringOp]

theorem run_bin {op : BinOp} {t : TypeId} {x y : Value} {v : Value} (h : bin P op t x y = some v) : (binOp op t x y).run P w = .ok v w := by
  unfold bin at h
  split at h
  · split at h
    · rename_i hk; obtain ⟨rfl, hs⟩ := hk; exact run_ib t hs h
    · cases h
  · exact run_sb t h
  · split at h <;> first | contradiction | skip
    · simp only [Option.map_eq_some_iff] at h
      obtain ⟨b, hb, rfl⟩ := h
      rw [run_eql_struct, (eqA_spec hb).2]; rfl
    · simp only [Option.map_eq_some_iff] at h
      obtain ⟨b, hb, rfl⟩ := h
      rw [run_neq_struct, (eqA_spec hb).2]; rfl
  · rename_i hi hs hag
    have hb : ∀ b, eqv (kd P t) x y = some b → (∀ k a, x ≠ .int k a) ∧ (∀ k a, x ≠ .float k a) ∧ (∀ k a b, x ≠ .complex k a b) ∧ (∀ a, x ≠ .string a) := by
      intro b hb
      refine ⟨fun k a e => ?_, fun k a e => ?_, fun k a b e => ?_, fun a e => ?_⟩ <;> subst e <;> (unfold eqv at hb; split at hb <;> first | contradiction | cases hb)
    split at h
    · simp only [Option.map_eq_some_iff] at h
      obtain ⟨b, hb', rfl⟩ := h
      obtain ⟨h1, h2, h3, h4⟩ := hb b hb'
      have hq := run_eqv (w := w) hb'
      cases x <;> first | exact (h1 _ _ rfl).elim | exact (h2 _ _ rfl).elim | exact (h3 _ _ _ rfl).elim | exact (h4 _ rfl).elim | simp [binOp, hq]
    · simp only [Option.map_eq_some_iff] at h
      obtain ⟨b, hb', rfl⟩ := h
      obtain ⟨h1, h2, h3, h4⟩ := hb b hb'
      have hq := run_eqv (w := w) hb'
      cases x <;> first | exact (h1 _ _ rfl).elim | exact (h2 _ _ rfl).elim | exact (h3 _ _ _ rfl).elim | exact (h4 _ rfl).elim | simp [binOp, hq]
    · cases h

theorem run_guard {op : BinOp} {t : TypeId} {x y : Operand} {a b : Value} {v : Value} (h : bin P op t a b = some v) : (eqGuard op t x y a b).run P w = .ok () w := by
  have h1 : ¬ (a = .nilIface ∧ b = .nilIface) := by
    rintro ⟨rfl, rfl⟩
    unfold bin at h
    simp only at h
    split at h <;> simp [eqv] at h
  by_cases h2 : ∃ c d, a = .agg c ∧ b = .agg d
  · obtain ⟨c, d, rfl, rfl⟩ := h2
    unfold bin at h
    simp only at h
    split at h <;> first | contradiction | skip
    · simp only [Option.map_eq_some_iff] at h
      obtain ⟨b, hb, rfl⟩ := h
      exact run_eqGuard_agg w _ _ _ _ _ _ (eqA_spec (w := w) hb).1
    · simp only [Option.map_eq_some_iff] at h
      obtain ⟨b, hb, rfl⟩ := h
      exact run_eqGuard_agg w _ _ _ _ _ _ (eqA_spec (w := w) hb).1
  · have h2 : ∀ c d, ¬ (a = .agg c ∧ b = .agg d) := fun c d he => h2 ⟨c, d, he⟩
    unfold eqGuard
    cases a <;> cases b <;> first | exact absurd ⟨rfl, rfl⟩ h1 | exact absurd ⟨rfl, rfl⟩ (h2 _ _) | (simp only []; split <;> simp)
end
end Go.Proofs.YtdbgeahmhfocaaaGreat

/- Each quiet operation as a plain function of its operands and the view of memory, and that the machine's operation yields it and leaves the world as it is. -/
namespace Go.Proofs.YtdbgeahmhfocaaaGreat
set_option linter.unusedSimpArgs false
set_option linter.unusedVariables false
open Go Go.RowKit

def nck : Value → Option Value
  | .pointer (some a) => some (.pointer (some a))
  | .func (.func f) x y => some (.func (.func f) x y)
  | .func (.yield f) x y => some (.func (.yield f) x y)
  | _ => none

def un (op : UnOp) (x : Value) : Option Value :=
  match op, x with
  | .not, .bool b => some (.bool !b)
  | .neg, .int k n => some (.int k (k.wrap (0 - n)))
  | _, _ => none

def cv (P : Program) (s d : TypeId) (x : Value) : Option Value :=
  match kd P d, kd P s, x with
  | .int k, .int _, .int _ n => some (.int k (k.wrap n))
  | .string, .string, .string s => some (.string s)
  | _, _, _ => none

def fld (P : Program) (t f : Nat) (x : Value) : Option Value :=
  match x, fk P t f with
  | .agg cs, some (off, some n) => some (.agg (cs.extract off (off + n)))
  | .agg cs, some (off, none) => cs[off]?
  | _, _ => none

def ixa (P : Program) (t : TypeId) (x i : Value) : Option Value :=
  match ik P t, x, i with
  | some (none, s, _), .slice (some a) len _, .int _ i => if 0 ≤ i ∧ i < len then some (.pointer (some (a.add (i.toNat * s)))) else none
  | some (some len, s, _), .pointer (some a), .int _ i => if 0 ≤ i ∧ i < len then some (.pointer (some (a.add (i.toNat * s)))) else none
  | _, _, _ => none

def ixv (P : Program) (t : TypeId) (x i : Value) : Option Value :=
  match x, i with
  | .string s, .int _ i => if kd P t = .string ∧ 0 ≤ i then (s[i.toNat]?).map fun b => .int .u8 b.toNat else none
  | .agg cs, .int _ i =>
    match ik P t with
    | some (some len, s, true) => if 0 ≤ i ∧ i < len then some (.agg (cs.extract (i.toNat * s) (i.toNat * s + s))) else none
    | some (some len, s, false) => if 0 ≤ i ∧ i < len then cs[i.toNat * s]? else none
    | _ => none
  | _, _ => none

def sbd (x : Option Value) (dflt y : Nat) : Option Nat :=
  match x with
  | none => some dflt
  | some (.int _ i) => if 0 ≤ i ∧ i ≤ y then some i.toNat else none
  | _ => none

def sbs (len cap : Nat) (lo hi mx : Option Value) : Option (Nat × Nat × Nat) :=
  (sbd mx cap cap).bind fun m => if hi = none ∧ mx ≠ none then none else (sbd hi len m).bind fun h => (sbd lo 0 h).map fun l => (l, h, m)

instance (x : Option Value) : Decidable (x = none) := decidable_of_iff (x.isNone = true) (by cases x <;> simp)

def slc (P : Program) (t : TypeId) (x : Value) (lo hi mx : Option Value) : Option Value :=
  match x with
  | .string s => if kd P t = .string ∧ mx = none then (sbs s.size s.size lo hi none).map fun (l, h, _) => .string (s.extract l h) else none
  | .slice a len cap =>
    match ik P t with
    | some (none, s, _) => (sbs len cap lo hi mx).map fun (l, h, m) => .slice (if m = l then a else a.map (·.add (l * s))) (h - l) (m - l)
    | _ => none
  | .pointer (some a) =>
    match ik P t with
    | some (some n, s, _) => (sbs n n lo hi mx).map fun (l, h, m) => .slice (some (if m = l then a else a.add (l * s))) (h - l) (m - l)
    | _ => none
  | _ => none

def mx2 : Value → Value → Option Value
  | .int k x, .int _ y => some (.int k (if y > x then y else x))
  | _, _ => none
def mn2 : Value → Value → Option Value
  | .int k x, .int _ y => some (.int k (if y < x then y else x))
  | _, _ => none
def fold2 (f : Value → Value → Option Value) : Value → List Value → Option Value
  | x, [] => some x
  | x, y :: l => (f x y).bind fun z => fold2 f z l

def bi (P : Program) (σ : St) (b : Builtin) (ts : Array TypeId) (xs : List Value) : Option Value :=
  match b, xs with
  | .len, [x] =>
    match ts[0]? with
    | none => none
    | some t =>
      match x with
      | .string s => if kd P t = .string then some (goInt s.size) else none
      | .slice _ n _ => if kd P t = .slice then some (goInt n) else none
      | .map none => if kd P t = .map then some (goInt 0) else none
      | .map (some r) => if kd P t = .map then (match σ.m r with | some (.raw (.map es _)) => some (goInt es.size) | _ => none) else none
      | _ => match ik P t with | some (some n, _, _) => some (goInt n) | _ => none
  | .cap, [x] =>
    match ts[0]? with
    | none => none
    | some t =>
      match x with
      | .slice _ _ n => if kd P t = .slice then some (goInt n) else none
      | _ => none
  | .max, x :: l => fold2 mx2 x l
  | .min, x :: l => fold2 mn2 x l
  | _, _ => none

def plainKey : TypeDesc → Bool
  | .int _ | .string | .bool => true
  | _ => false

def lk (P : Program) (σ : St) (t : TypeId) (x i : Value) (ok : Bool) : Option Value :=
  match P.underlying t with
  | some (.map key elem) =>
    match P.underlying key, zr P elem with
    | some d, some z =>
      if plainKey d then
        match x with
        | .map none => some (if ok then .tuple #[z, .bool false] else z)
        | .map (some r) =>
          match σ.m r with
          | some (.raw (.map es _)) =>
            match Instr.findNow d i es.toList 0 with
            | some (some (_, v)) => some (if ok then .tuple #[v, .bool true] else v)
            | some none => some (if ok then .tuple #[z, .bool false] else z)
            | none => none
          | _ => none
        | _ => none
      else none
    | _, _ => none
  | _ => none

/-- The zero cells of a struct or an array, and where its fields, or elements, lie. -/
def bp (P : Program) (t : TypeId) : Option (Array Value × (List (Nat × Nat) ⊕ Nat)) :=
  match zr P t, P.underlying t with
  | some z, some (.struct fs) => (fs.toList.mapM fun f => (P.info? f.type).map fun i => (f.offset, i.size)).map fun l => (z.cells, .inl l)
  | some z, some (.array _ e) => (P.info? e).map fun i => (z.cells, .inr i.size)
  | _, _ => none

def bld (P : Program) (t : TypeId) (parts : List (Nat × Value)) : Option Value :=
  match bp P t with
  | some (z, .inl pl) => (Instr.fill (pl[·]?) z parts).map .agg
  | some (z, .inr s) => (Instr.fill (fun i => some (i * s, s)) z parts).map .agg
  | none => none

def plainKd : Kd → Bool
  | .iface | .other => false
  | _ => true

def qv (P : Program) (B : World) (p : Op) (ρ : Operand → Value) (σ : St) : Option Value :=
  match p with
  | .move x => some (ρ x)
  | .assign x => some (ρ x)
  | .pick c a b => match ρ c with | .bool t => some (if t then ρ a else ρ b) | _ => none
  | .nilCheck x => nck (ρ x)
  | .binOp op t x y _ => bin P op t (ρ x) (ρ y)
  | .unOp op _ x => un op (ρ x)
  | .convert s d x => cv P s d (ρ x)
  | .fieldAddr s x f => match ρ x, fo P s f with | .pointer (some a), some o => some (.pointer (some (a.add o))) | _, _ => none
  | .field t x f => fld P t f (ρ x)
  | .indexAddr t x i => ixa P t (ρ x) (ρ i)
  | .index t x i => ixv P t (ρ x) (ρ i)
  | .extract x i => match ρ x with | .tuple vs => vs[i]? | _ => none
  | .slice t x lo hi mx => slc P t (ρ x) (lo.map ρ) (hi.map ρ) (mx.map ρ)
  | .load t x => match ρ x with | .pointer (some a) => ldv P B σ t a | _ => none
  | .makeFunc fn first cap => some (.func fn (first.map ρ) (cap.map ρ))
  | .build t parts => bld P t (parts.toList.map fun (i, x) => (i, ρ x))
  | .makeInterface t x => if plainKd (kd P t) then some (.iface t (ρ x)) else none
  | .lookup t x i ok => lk P σ t (ρ x) (ρ i) ok
  | .call c => match c.callee with | .builtin b => bi P σ b c.argTypes (c.args.toList.map ρ) | _ => none
  | _ => none

section
variable {P : Program} {B w : World} {σ : St} {ρ : Operand → Value}

theorem run_cv {s d : TypeId} {x v : Value} (h : cv P s d x = some v) : (convert s d x).run P w = .ok v w := by
  unfold cv at h
  split at h <;> first | contradiction | skip
  · rename_i k j i n hd hs
    obtain ⟨d1, hu, h1⟩ := kd_und hd (by simp)
    obtain ⟨d2, hu2, h2⟩ := kd_und hs (by simp)
    cases d1 <;> first | exact h1.elim | skip
    cases d2 <;> first | exact h2.elim | skip
    cases h
    simp only [kdIs] at h1
    subst h1
    simp [convert, run_und hu, run_und hu2, Conv.intToInt]
  · rename_i hd hs
    obtain ⟨d1, hu, h1⟩ := kd_und hd (by simp)
    obtain ⟨d2, hu2, h2⟩ := kd_und hs (by simp)
    cases d1 <;> first | exact h1.elim | skip
    cases d2 <;> first | exact h2.elim | skip
    cases h
    simp [convert, run_und hu, run_und hu2]

theorem run_fo {s f o : Nat} {a : Addr} (h : fo P s f = some o) : (Instr.fieldAt s (.pointer (some a)) f).run P w = .ok (.pointer (some (a.add o))) w := by
  unfold fo at h
  split at h <;> first | contradiction | skip
  rename_i fs hu
  split at h <;> first | contradiction | skip
  rename_i fd hf
  cases hi : P.info? fd.type with
  | none => simp [hi] at h
  | some i =>
    simp only [hi, Option.bind_some] at h
    split at h <;> first | contradiction | skip
    rename_i h0
    cases h
    simp [Instr.fieldAt, run_und hu, hf, Instr.sureAddr, fieldPlace, run_sz hi, h0]

theorem run_part {t : TypeId} {b : Bool} {n : Nat} (h : tk P t = some (b, n)) (cs : Array Value) (off : Nat) (v : Value)
    (hv : (if b then some (Value.agg (cs.extract off (off + n))) else cs[off]?) = some v) : (Go.part t cs off).run P w = .ok v w := by
  obtain ⟨d, i, hu, hi, hn, hag⟩ := tk_spec (w := w) h
  cases b with
  | true => simp at hv; simp [Go.part, hag, run_sz hi, hn, hv]
  | false => simp at hv; simp [Go.part, hag, hv]

theorem run_fld {t f : Nat} {x v : Value} (h : fld P t f x = some v) : (Instr.field t x f).run P w = .ok v w := by
  unfold fld at h
  have key : ∀ {off : Nat} {o : Option Nat}, fk P t f = some (off, o) → ∃ fs fd b n, P.underlying t = some (.struct fs) ∧ fs[f]? = some fd ∧ tk P fd.type = some (b, n) ∧ fd.offset = off ∧ o = (if b then some n else none) := by
    intro off o hk
    unfold fk at hk
    split at hk <;> first | contradiction | skip
    rename_i fs hu
    split at hk <;> first | contradiction | skip
    rename_i fd hf
    cases ht : tk P fd.type with
    | none => simp [ht] at hk
    | some bn =>
      obtain ⟨b, n⟩ := bn
      simp [ht] at hk
      exact ⟨fs, fd, b, n, hu, hf, rfl.trans ht, hk.1, hk.2.symm⟩
  split at h <;> first | contradiction | skip
  · rename_i cs off n hk
    obtain ⟨fs, fd, b, n', hu, hf, ht, ho, hb⟩ := key hk
    cases b <;> simp at hb
    subst hb
    simp [Instr.field, run_und hu, hf, asAgg, run_part ht cs fd.offset v (by simpa [ho] using h)]
  · rename_i cs off hk
    obtain ⟨fs, fd, b, n', hu, hf, ht, ho, hb⟩ := key hk
    cases b <;> simp at hb
    simp [Instr.field, run_und hu, hf, asAgg, run_part ht cs fd.offset v (by simpa [ho] using h)]

theorem ik_slice {t : TypeId} {s : Nat} {g : Bool} (h : ik P t = some (none, s, g)) : ∃ e, P.underlying t = some (.slice e) ∧ tk P e = some (g, s) := by
  unfold ik at h
  split at h <;> first | contradiction | skip
  · rename_i n e hu
    cases ht : tk P e <;> simp [ht] at h
  · rename_i e hu
    cases ht : tk P e with
    | none => simp [ht] at h
    | some x => obtain ⟨a, b⟩ := x; simp [ht] at h; exact ⟨e, hu, by rw [ht, h.1, h.2]⟩

theorem ik_array {t : TypeId} {n s : Nat} {g : Bool} (h : ik P t = some (some n, s, g)) : ∃ e, P.underlying t = some (.array n e) ∧ tk P e = some (g, s) := by
  unfold ik at h
  split at h <;> first | contradiction | skip
  · rename_i n' e hu
    cases ht : tk P e with
    | none => simp [ht] at h
    | some x => obtain ⟨a, b⟩ := x; simp [ht] at h; obtain ⟨rfl, rfl, rfl⟩ := h; exact ⟨e, hu, ht⟩
  · rename_i e hu
    cases ht : tk P e <;> simp [ht] at h

theorem run_ixa {t : TypeId} {x i v : Value} (h : ixa P t x i = some v) : (Instr.indexAt t x i).run P w = .ok v w := by
  unfold ixa at h
  split at h <;> first | contradiction | skip
  · rename_i s g a len cap k i hk
    obtain ⟨e, hu, ht⟩ := ik_slice hk
    obtain ⟨d, ii, hu2, hi, hn, hag⟩ := tk_spec (w := w) ht
    split at h <;> first | contradiction | skip
    rename_i hb
    cases h
    simp [Instr.indexAt, asIntOf, run_und hu, run_sz hi, hn, hb]
  · rename_i len s g a k i hk
    obtain ⟨e, hu, ht⟩ := ik_array hk
    obtain ⟨d, ii, hu2, hi, hn, hag⟩ := tk_spec (w := w) ht
    split at h <;> first | contradiction | skip
    rename_i hb
    cases h
    simp [Instr.indexAt, asIntOf, run_und hu, run_sz hi, hn, hb, Instr.sureAddr]

theorem run_ixv {t : TypeId} {x i v : Value} (h : ixv P t x i = some v) : (Instr.index t x i).run P w = .ok v w := by
  unfold ixv at h
  split at h <;> first | contradiction | skip
  · rename_i s k i
    split at h <;> first | contradiction | skip
    rename_i hb
    obtain ⟨d, hu, hd⟩ := kd_und hb.1 (by simp)
    cases d <;> first | exact hd.elim | skip
    simp only [Option.map_eq_some_iff] at h
    obtain ⟨c, hc, rfl⟩ := h
    simp [Instr.index, asIntOf, run_und hu, hb.2, hc]
  · rename_i cs k i
    split at h <;> first | contradiction | skip
    · rename_i len s hk
      obtain ⟨e, hu, ht⟩ := ik_array hk
      obtain ⟨d, ii, hu2, hi, hn, hag⟩ := tk_spec (w := w) ht
      split at h <;> first | contradiction | skip
      rename_i hb
      simp [Instr.index, asIntOf, run_und hu, run_sz hi, hn, hb, run_part ht cs (i.toNat * s) v (by simpa using h)]
    · rename_i len s hk
      obtain ⟨e, hu, ht⟩ := ik_array hk
      obtain ⟨d, ii, hu2, hi, hn, hag⟩ := tk_spec (w := w) ht
      split at h <;> first | contradiction | skip
      rename_i hb
      simp [Instr.index, asIntOf, run_und hu, run_sz hi, hn, hb, run_part ht cs (i.toNat * s) v (by simpa using h)]

theorem run_sbd {v : Value} {dflt y n : Nat} {code : BoundsCode} (h : sbd (some v) dflt y = some n) : (Instr.sliceBound v y code).run P w = .ok n w := by
  unfold sbd at h
  split at h <;> first | contradiction | skip
  rename_i k i he
  cases he
  split at h <;> first | contradiction | skip
  rename_i hb
  cases h
  simp [Instr.sliceBound, asIntOf, hb]

theorem run_sbs {isS : Bool} {len cap l hh m : Nat} {lo hi mx : Option Value} (h : sbs len cap lo hi mx = some (l, hh, m)) :
    (Instr.sliceBounds isS len cap lo hi mx).run P w = .ok (l, hh, m) w := by
  unfold sbs at h
  simp only [Option.bind_eq_some_iff] at h
  obtain ⟨m', hm, h⟩ := h
  split at h <;> first | contradiction | skip
  rename_i hn
  simp only [Option.bind_eq_some_iff, Option.map_eq_some_iff, Prod.mk.injEq] at h
  obtain ⟨h', hh', l', hl, rfl, rfl, rfl⟩ := h
  unfold Instr.sliceBounds
  cases mx with
  | none =>
    obtain rfl : cap = m' := by simpa [sbd] using hm
    cases hi with
    | none =>
      obtain rfl : len = h' := by simpa [sbd] using hh'
      cases lo with
      | none =>
        obtain rfl : 0 = l' := by simpa [sbd] using hl
        simp
      | some a => simp [run_sbd hl]
    | some b =>
      cases lo with
      | none =>
        obtain rfl : 0 = l' := by simpa [sbd] using hl
        simp [run_sbd hh']
      | some a => simp [run_sbd hl, run_sbd hh']
  | some c =>
    cases hi with
    | none => simp at hn
    | some b =>
      cases lo with
      | none =>
        obtain rfl : 0 = l' := by simpa [sbd] using hl
        simp [run_sbd hh', run_sbd hm]
      | some a => simp [run_sbd hl, run_sbd hh', run_sbd hm]

theorem run_slc {t : TypeId} {x v : Value} {lo hi mx : Option Value} (h : slc P t x lo hi mx = some v) : (Instr.sliceAt t x lo hi mx).run P w = .ok v w := by
  unfold slc at h
  split at h <;> first | contradiction | skip
  · rename_i s
    split at h <;> first | contradiction | skip
    rename_i hb
    obtain ⟨d, hu, hd⟩ := kd_und hb.1 (by simp)
    cases d <;> first | exact hd.elim | skip
    simp only [Option.map_eq_some_iff] at h
    obtain ⟨⟨l, hh, m⟩, hs, rfl⟩ := h
    simp [Instr.sliceAt, Instr.slice, run_und hu, hb.2, run_sbs hs]
  · rename_i a len cap
    split at h <;> first | contradiction | skip
    rename_i s g hk
    obtain ⟨e, hu, ht⟩ := ik_slice hk
    obtain ⟨d, ii, hu2, hi, hn, hag⟩ := tk_spec (w := w) ht
    simp only [Option.map_eq_some_iff] at h
    obtain ⟨⟨l, hh, m⟩, hs, rfl⟩ := h
    simp [Instr.sliceAt, Instr.slice, run_und hu, run_sbs hs, run_sz hi, hn]
  · rename_i a
    split at h <;> first | contradiction | skip
    rename_i n s g hk
    obtain ⟨e, hu, ht⟩ := ik_array hk
    obtain ⟨d, ii, hu2, hi, hn, hag⟩ := tk_spec (w := w) ht
    simp only [Option.map_eq_some_iff] at h
    obtain ⟨⟨l, hh, m⟩, hs, rfl⟩ := h
    simp [Instr.sliceAt, run_und hu, run_sbs hs, run_sz hi, hn, Instr.sureAddr]

theorem run_un {op : UnOp} {x v : Value} (h : un op x = some v) : (Op.unary op x).run P w = .ok v w := by
  unfold un at h
  split at h <;> first | contradiction | (cases h; simp [Op.unary, Op.intArith])

theorem run_fold2 {f : Value → Value → Option Value} {g : Value → Value → Sem Value} (hfg : ∀ x y v, f x y = some v → (g x y).run P w = .ok v w) :
    ∀ (l : List Value) (x v : Value), fold2 f x l = some v → (l.foldlM g x).run P w = .ok v w
  | [], x, v, h => by simp [fold2] at h; simp [h]
  | y :: l, x, v, h => by
    simp only [fold2, Option.bind_eq_some_iff] at h
    obtain ⟨z, hz, h⟩ := h
    simp [hfg x y z hz, run_fold2 hfg l z v h]

theorem run_bi (h : Rel B w σ) {b : Builtin} {ts : Array TypeId} {xs : List Value} {v : Value} (ty : TypeId) (cs : Array Bool) (hv : bi P σ b ts xs = some v) :
    (builtin b ts ty cs xs.toArray).run P w = .ok (.value v) w := by
  unfold bi at hv
  split at hv <;> first | contradiction | skip
  · rename_i x
    split at hv <;> first | contradiction | skip
    rename_i t ht
    split at hv
    · split at hv <;> first | contradiction | skip
      rename_i hk
      obtain ⟨d, hu, hd⟩ := kd_und hk (by simp)
      cases d <;> first | exact hd.elim | skip
      cases hv
      simp [builtin, Builtin.len_, ht, run_und hu]
    · split at hv <;> first | contradiction | skip
      rename_i hk
      obtain ⟨d, hu, hd⟩ := kd_und hk (by simp)
      cases d <;> first | exact hd.elim | skip
      cases hv
      simp [builtin, Builtin.len_, ht, run_und hu]
    · split at hv <;> first | contradiction | skip
      rename_i hk
      obtain ⟨d, hu, hd⟩ := kd_und hk (by simp)
      cases d <;> first | exact hd.elim | skip
      cases hv
      simp [builtin, Builtin.len_, ht, run_und hu]
    · split at hv <;> first | contradiction | skip
      rename_i hk
      obtain ⟨d, hu, hd⟩ := kd_und hk (by simp)
      cases d <;> first | exact hd.elim | skip
      split at hv <;> first | contradiction | skip
      rename_i es c hm
      cases hv
      have := h.raw hm
      simp [builtin, Builtin.len_, ht, run_und hu, getObj, Sem.run, this]
    · rename_i h1 h2 h3 h4
      split at hv <;> first | contradiction | skip
      rename_i n s g hk
      obtain ⟨e, hu, _⟩ := ik_array hk
      cases hv
      simp [builtin, Builtin.len_, ht, run_und hu]
  · rename_i x
    split at hv <;> first | contradiction | skip
    rename_i t ht
    split at hv <;> first | contradiction | skip
    split at hv <;> first | contradiction | skip
    rename_i hk
    obtain ⟨d, hu, hd⟩ := kd_und hk (by simp)
    cases d <;> first | exact hd.elim | skip
    cases hv
    simp [builtin, Builtin.cap_, ht, run_und hu]
  · rename_i x l
    have := run_fold2 (P := P) (w := w) (f := mx2) (g := Builtin.max2) (fun x y v hxy => by
      unfold mx2 at hxy; split at hxy <;> first | contradiction | (cases hxy; simp [Builtin.max2])) l x v hv
    simp [builtin, Builtin.max_, this]
  · rename_i x l
    have := run_fold2 (P := P) (w := w) (f := mn2) (g := Builtin.min2) (fun x y v hxy => by
      unfold mn2 at hxy; split at hxy <;> first | contradiction | (cases hxy; simp [Builtin.min2])) l x v hv
    simp [builtin, Builtin.min_, this]

theorem run_checkKey {t : TypeId} {d : TypeDesc} (hu : P.underlying t = some d) (hd : plainKey d = true) (e : Bool) (n : Nat) (v : Value) :
    (Instr.checkKey e (n + 1) t v).run P w = .ok () w := by
  cases d <;> simp [plainKey] at hd <;> simp [Instr.checkKey, run_und hu]

theorem run_findKey {t : TypeId} {d : TypeDesc} (hu : P.underlying t = some d) {k : Value} {es : List MapEntry} {r : Option (Nat × Value)} (h : Instr.findNow d k es 0 = some r) :
    (Instr.findKey t k es).run P w = .ok r w := by
  simp [Instr.findKey, run_und hu, h]

theorem run_lk (h : Rel B w σ) {t : TypeId} {x i v : Value} {ok : Bool} (hv : lk P σ t x i ok = some v) : (Instr.lookup t x i ok).run P w = .ok v w := by
  unfold lk at hv
  split at hv <;> first | contradiction | skip
  rename_i key elem hu
  split at hv <;> first | contradiction | skip
  rename_i d z hd hz
  split at hv <;> first | contradiction | skip
  rename_i hkd
  split at hv <;> first | contradiction | skip
  · cases hv
    simp [Instr.lookup, run_und hu, run_checkKey hd hkd, run_findKey hd (show Instr.findNow d i [] 0 = some none from rfl), run_zr hz]
  · rename_i r
    split at hv <;> first | contradiction | skip
    rename_i es c hm
    have hr := h.raw hm
    split at hv <;> first | contradiction | skip
    · rename_i n v' hf
      cases hv
      simp [Instr.lookup, run_und hu, run_checkKey hd hkd, getObj, Sem.run, hr, run_findKey hd hf]
    · rename_i hf
      cases hv
      simp [Instr.lookup, run_und hu, run_checkKey hd hkd, getObj, Sem.run, hr, run_findKey hd hf, run_zr hz]

theorem run_places (w : World) : ∀ (fs : List Field) (l : List (Nat × Nat)), (fs.mapM fun f => (P.info? f.type).map fun i => (f.offset, i.size)) = some l →
    (fs.mapM (fun f => do pure (f.offset, ← sizeOf f.type) : Field → Sem (Nat × Nat))).run P w = .ok l w
  | [], l, h => by simp at h; simp [h]
  | f :: fs, l, h => by
    simp only [List.mapM_cons, Option.bind_eq_bind, Option.bind_eq_some_iff, Option.map_eq_some_iff, Option.pure_def, Option.some.injEq] at h
    obtain ⟨_, ⟨i, hi, rfl⟩, l', hl, rfl⟩ := h
    simp only [List.mapM_cons, Sem.run_bind, run_sz hi, Result.andThen_ok, Sem.run_pure, run_places w fs l' hl]

theorem run_bld {t : TypeId} {parts : Array (Nat × Value)} {v : Value} (h : bld P t parts.toList = some v) : (Instr.build t parts).run P w = .ok v w := by
  unfold bld at h
  split at h <;> first | contradiction | skip
  · rename_i z pl hb
    unfold bp at hb
    split at hb <;> first | contradiction | skip
    · rename_i z' fs hz hu
      simp only [Option.map_eq_some_iff, Prod.mk.injEq, Sum.inl.injEq] at hb
      obtain ⟨l, hl, rfl, rfl⟩ := hb
      simp only [Option.map_eq_some_iff] at h
      obtain ⟨cs, hf, rfl⟩ := h
      have hp := run_places (P := P) w fs.toList l hl
      have hfill : Instr.fill (fun x => l.toArray[x]?) z'.cells parts.toList = some cs := by simpa using hf
      simp only [Instr.build, Sem.run_bind, run_zr hz, Result.andThen_ok, run_und hu]
      rw [Array.mapM_eq_mapM_toList]
      simp only [Sem.run_map, hp, Result.andThen_ok, hfill, Sem.run_pure]
    · rename_i z' n e hz hu
      cases hi : P.info? e <;> simp [hi] at hb
  · rename_i z s hb
    unfold bp at hb
    split at hb <;> first | contradiction | skip
    · rename_i z' fs hz hu
      simp at hb
    · rename_i z' n e hz hu
      cases hi : P.info? e with
      | none => simp [hi] at hb
      | some i =>
        simp [hi] at hb
        obtain ⟨rfl, rfl⟩ := hb
        simp only [Option.map_eq_some_iff] at h
        obtain ⟨cs, hf, rfl⟩ := h
        simp [Instr.build, run_zr hz, run_und hu, run_sz hi, hf]
  
/-- **THE QUIET OPERATIONS.** -/
theorem run_qv (h : Rel B w σ) {p : Op} {v : Value} (hv : qv P B p ρ σ = some v) (o : Oper) (ho : o.op = p) : (execOp ρ o).run P w = .ok (.value v) w := by
  subst ho
  unfold qv at hv
  unfold execOp
  split at hv <;> first | contradiction | (rename_i heq; rw [heq])
  · cases hv; rfl
  · cases hv; rfl
  · split at hv <;> first | contradiction | skip
    rename_i t ht
    cases hv
    simp [ht, asBool]
  · rename_i x
    simp only [nck] at hv
    split at hv <;> first | contradiction | (rename_i hx; cases hv; simp only [hx]; rfl)
  · simp [run_guard hv, run_bin hv]
  · simp [run_un hv]
  · simp [run_cv hv]
  · split at hv <;> first | contradiction | skip
    rename_i a o hx ho
    cases hv
    simp [hx, run_fo ho]
  · simp [run_fld hv]
  · simp [run_ixa hv]
  · simp [run_ixv hv]
  · split at hv <;> first | contradiction | skip
    rename_i vs hx
    simp [Instr.extract, hx, hv]
  · simp [run_slc hv]
  · split at hv <;> first | contradiction | skip
    rename_i a hx
    simp [Instr.loadAt, hx, Instr.sureAddr, run_ldv h hv]
  · cases hv; simp [Instr.makeFunc]
  · rename_i t parts
    have e : (parts.map fun (i, x) => (i, ρ x)).toList = parts.toList.map fun (i, x) => (i, ρ x) := by simp
    rw [← e] at hv
    simp [run_bld hv]
  · rename_i t x
    split at hv <;> first | contradiction | skip
    rename_i hk
    cases hv
    obtain ⟨d, hu, hd⟩ := kd_und (P := P) (t := t) rfl (fun e => by rw [e] at hk; simp [plainKd] at hk)
    cases hkk : kd P t <;> rw [hkk] at hd hk <;> simp [plainKd] at hk <;> cases d <;> first | exact hd.elim | simp [Instr.makeInterface, run_und hu]
  · simp [run_lk h hv]
  · rename_i c
    split at hv <;> first | contradiction | skip
    rename_i b hc
    have e : (c.args.toList.map ρ).toArray = c.args.map ρ := by rw [← List.map_toArray]
    have hr := fun cs => run_bi h o.type cs hv
    rw [e] at hr
    simp [resolve, hc, invoke, hr]
end
end Go.Proofs.YtdbgeahmhfocaaaGreat

/- What an operation, a call, a piece of code comes to, by the view of memory. -/
namespace Go.Proofs.YtdbgeahmhfocaaaGreat
set_option linter.unusedSimpArgs false
set_option linter.unusedVariables false
open Go Go.RowKit

/-! ### Conditions that a walk meets; each is simplified in its head alone -/
def bindK {α : Type} (x : Option α) (K : α → Prop) : Prop := ∃ v, x = some v ∧ K v
theorem bindK_congr {α : Type} {x x' : Option α} {K : α → Prop} (h : x = x') : bindK x K = bindK x' K := by rw [h]
theorem bindK_some {α : Type} (v : α) (K : α → Prop) : bindK (some v) K = K v := by simp [bindK]
theorem bindK_none {α : Type} (K : α → Prop) : bindK none K = False := by simp [bindK]

def br (b : Bool) (x y : Prop) : Prop := (b = true → x) ∧ (b = false → y)
theorem br_congr {b b' : Bool} {x y : Prop} (h : b = b') : br b x y = br b' x y := by rw [h]
theorem br_true (x y : Prop) : br true x y = x := by simp [br]
theorem br_false (x y : Prop) : br false x y = y := by simp [br]
theorem br_intro {b : Bool} {x y : Prop} (h : b = true → x) (h' : b = false → y) : br b x y := ⟨h, h'⟩


section
variable (P : Program) (B : World)

/-- A call's end: it has returned 'v', and the world is as the view says. -/
def retP (K : Value → St → Prop) : Ending → World → Prop := fun e w' => ∃ v σ', e = .returned v ∧ Rel B w' σ' ∧ K v σ'

/-- **A CALL OF FUNCTION 'f'**, whatever world the view speaks of. -/
def Fn (f : FuncId) (args : Array Value) (σ : St) (K : Value → St → Prop) : Prop :=
  (∃ fn, P.funcs[f]? = some fn ∧ (fn.name == "runtime.NumGoroutine") = false ∧ fn.body.isSome = true) ∧ ∀ w, Rel B w σ → Calls P f args w (retP B K)

/-- One round of a range over a function: what 'yield' comes to. -/
def Rd (l : Nat) (args : Array Value) (σ : St) (K : Value → St → Prop) : Prop :=
  ∃ r, σ.m l = some (.raw (.loop r)) ∧ args.size = r.params.size ∧
    ∀ w, Rel B w σ → RoundIn Fence.wide 0 P l r.fn ((r.params.zip args).foldl (fun tmps (t, a) => tmps.setIfInBounds t a) r.tmps) r.assign r.body w (retP B K)

/-- A call of a function value. -/
def FnV (g : Value) (args : Array Value) (σ : St) (K : Value → St → Prop) : Prop :=
  match g with
  | .func (.func f) first cap => Fn P B f (first ++ args ++ cap) σ K
  | .func (.yield l) first _ => Rd P B l (first ++ args) σ K
  | _ => False

def NextR (r : Result Next) (K : Value → St → Prop) : Prop :=
  match r with
  | .ok (.value v) w' => ∃ σ', Rel B w' σ' ∧ K v σ'
  | .ok .skip w' => ∃ σ', Rel B w' σ' ∧ K undef σ'
  | .ok (.enter f args) w' => Calls P f args w' (retP B K)
  | .ok (.round l f tmps assign body) w' => RoundIn Fence.wide 0 P l f tmps assign body w' (retP B K)
  | _ => False

def OpK (p : Op) (ty : TypeId) (ρ : Operand → Value) (σ : St) (K : Value → St → Prop) : Prop :=
  ∀ w, Rel B w σ → NextR P B ((execOp ρ { dst := none, op := p, type := ty, pos := "", after := #[], guard := none }).run P w) K
end

section
variable {P : Program} {B : World} {σ : St}

theorem Fn.mono {f : FuncId} {args : Array Value} {K K' : Value → St → Prop} (h : Fn P B f args σ K) (hk : ∀ v σ', K v σ' → K' v σ') : Fn P B f args σ K' :=
  ⟨h.1, fun w hw => (h.2 w hw).mono fun _ _ ⟨v, σ', e, r, k⟩ => ⟨v, σ', e, r, hk v σ' k⟩⟩
/-- The end may be seen by another view that every such world agrees with. -/
theorem Fn.conseq {f : FuncId} {args : Array Value} {K K' : Value → St → Prop} (h : Fn P B f args σ K) (hk : ∀ v σ', K v σ' → ∃ σ'', To B σ' σ'' ∧ K' v σ'') : Fn P B f args σ K' :=
  ⟨h.1, fun w hw => (h.2 w hw).mono fun _ w' ⟨v, σ', e, r, k⟩ => let ⟨σ'', t, k'⟩ := hk v σ' k; ⟨v, σ'', e, t w' r, k'⟩⟩
theorem Fn.from {f : FuncId} {args : Array Value} {K : Value → St → Prop} {σ' : St} (t : To B σ σ') (h : Fn P B f args σ' K) : Fn P B f args σ K :=
  ⟨h.1, fun w hw => h.2 w (t w hw)⟩
theorem Fn.wf {f : FuncId} {args : Array Value} {K : Value → St → Prop} (he : ∃ fn, P.funcs[f]? = some fn ∧ (fn.name == "runtime.NumGoroutine") = false ∧ fn.body.isSome = true)
    (h : σ.wf B → Fn P B f args σ K) : Fn P B f args σ K :=
  ⟨he, fun w hw => (h hw.wf).2 w hw⟩

theorem run_callFunc_en {f : FuncId} {args : Array Value} {w : World} (he : ∃ fn, P.funcs[f]? = some fn ∧ (fn.name == "runtime.NumGoroutine") = false ∧ fn.body.isSome = true) :
    (callFunc f args).run P w = .ok (.enter f args) w := by
  obtain ⟨fn, h1, h2, h3⟩ := he
  have h4 : fn.body.isNone = false := by cases hb : fn.body <;> simp_all
  simp only [callFunc, Sem.run_bind, run_program, Result.andThen_ok, h1, h2, h4, Bool.false_eq_true, if_false, Sem.run_pure]

/-- A call of a function value, as an operation. -/
theorem opK_call {g : Operand} {as : Array Operand} {ts : Array TypeId} {ty : TypeId} {ρ : Operand → Value} {K : Value → St → Prop} (h : FnV P B (ρ g) (as.map ρ) σ K) :
    OpK P B (.call ⟨.value g, as, ts⟩) ty ρ σ K := by
  intro w hw
  unfold FnV at h
  split at h <;> first | contradiction | skip
  · rename_i f first cap hg
    have hc := run_callFunc_en (args := first ++ as.map ρ ++ cap) (w := w) h.1
    simp only [execOp, resolve, Sem.run_bind, hg, Deferred.ofValue, Sem.run_pure, Result.andThen_ok, invoke]
    rw [hc]
    exact h.2 w hw
  · rename_i l first cap hg
    obtain ⟨r, hm, hsz, hr⟩ := h
    have hl := hw.raw hm
    simp only [execOp, resolve, Sem.run_bind, hg, Deferred.ofValue, Sem.run_pure, Result.andThen_ok, invoke, Instr.yield, Instr.getLoop, getObj, Sem.run, hl]
    simp only [ne_eq, hsz, not_true_eq_false, if_false, Sem.run_pure]
    exact hr w hw
end

/-! ### Effects -/
/-- The cells written from an index on. -/
def wrl (c : Array Value) : Nat → List Value → Array Value
  | _, [] => c
  | i, v :: vs => wrl (c.setIfInBounds i v) (i + 1) vs

/-- The view behind a store of some cells: the block is one of its own, laid open, and nothing of it is frozen. -/
def wrs (σ : St) (a : Addr) (vs : List Value) : Option St :=
  match σ.m a.block with
  | some (.raw (.cells c ty (0, 0))) => if a.spot = none ∧ a.off + vs.length ≤ c.size ∧ vs.all Value.oneCell' = true then some (σ.set a.block (.raw (.cells (wrl c a.off vs) ty (0, 0)))) else none
  | _ => none

def stv (P : Program) (σ : St) (t : TypeId) (x v : Value) : Option St :=
  match x, tk P t with
  | .pointer (some a), some (_, n) => if v.cells.size = n then wrs σ a v.cells.toList else none
  | _, _ => none

/-- So many cells, each the zero value of the element type in turn. -/
def zcells (zero : Array Value) (n : Nat) : Array Value := (Array.range n).map (zero[· % zero.size]!)

/-- The type of a slice's elements: the type, an element's cells, its bytes. -/
def se (P : Program) (t : TypeId) : Option (TypeId × Nat × Nat) :=
  match P.underlying t with
  | some (.slice e) => (P.info? e).map fun i => (e, i.size, i.bytes)
  | _ => none

section
variable {P : Program} {B w : World} {σ : St}

theorem add_none {a : Addr} {i : Nat} (h : a.spot = none) : a.add i = ⟨a.block, a.off + i, none⟩ := by
  obtain ⟨b, o, s⟩ := a
  simp only at h
  subst h
  unfold Addr.add
  split
  · rename_i e; subst e; rfl
  · rfl

theorem setCell_eq {b o : Nat} {v : Value} {c : Array Value} {ty : TypeId} {fz : Nat × Nat} (h : w.heap[b]? = some (.cells c ty fz)) :
    w.setCell ⟨b, o, none⟩ v = { w with heap := w.heap.setIfInBounds b (.cells (c.setIfInBounds o v) ty fz) } := by
  have hb : b < w.heap.size := (Array.getElem?_eq_some_iff.1 h).1
  have he : w.heap[b] = .cells c ty fz := by simpa [Array.getElem?_eq_getElem hb] using h
  unfold World.setCell
  congr 1
  apply Array.ext
  · simp
  · intro i h1 h2
    simp only [Array.getElem_modify, Array.getElem_setIfInBounds]
    split
    · rename_i e; subst e; simp [he]
    · rename_i e; rw [Array.getElem_setIfInBounds_ne _ e]

theorem run_storeCells {t : TypeId} {a : Addr} (hs : a.spot = none) : ∀ (vs : List Value) (i : Nat) (σ : St) (w : World) (c : Array Value), Rel B w σ →
    σ.m a.block = some (.raw (.cells c t (0, 0))) → a.off + i + vs.length ≤ c.size → vs.all Value.oneCell' = true →
    ∃ w', (storeCells a vs i).run P w = .ok () w' ∧ Rel B w' (σ.set a.block (.raw (.cells (wrl c (a.off + i) vs) t (0, 0))))
  | [], i, σ, w, c, h, hm, hl, hv => ⟨w, by simp [storeCells], by
      have : σ.set a.block (.raw (.cells c t (0, 0))) = σ := by
        simp only [St.set]
        congr 1
        funext x
        split
        · rename_i e; rw [e, hm]
        · rfl
      simpa [wrl, this] using h⟩
  | v :: vs, i, σ, w, c, h, hm, hl, hv => by
    simp only [List.all_cons, Bool.and_eq_true, List.length_cons] at hv hl
    have hr := h.raw hm
    have hadd : a.add i = ⟨a.block, a.off + i, none⟩ := add_none hs
    have hcell : w.cell? (a.add i) = some (c[a.off + i]'(by omega)) := by
      rw [hadd]; simp [World.cell?, hr]
    have hfz : w.frozen? (a.add i) = false := by
      rw [hadd]; simp [World.frozen?, hr]
    have hset := setCell_eq (w := w) (o := a.off + i) (v := v) hr
    have h1 := h.upd hm (.cells (c.setIfInBounds (a.off + i) v) t (0, 0))
    rw [← hset] at h1
    obtain ⟨w', hw', h2⟩ := run_storeCells (t := t) hs vs (i + 1) _ _ (c.setIfInBounds (a.off + i) v) h1 (by simp) (by simp; omega) hv.2
    refine ⟨w', ?_, ?_⟩
    · simp only [storeCells, Sem.run_bind, run_store P w (a.add i) v .plain hv.1, hcell, hfz, Bool.false_eq_true, if_false, Result.andThen_ok]
      rw [hadd]; exact hw'
    · simpa [wrl, Nat.add_assoc] using h2

theorem run_wrs (h : Rel B w σ) {a : Addr} {vs : List Value} {σ' : St} (hw : wrs σ a vs = some σ') : ∃ w', (storeCells a vs).run P w = .ok () w' ∧ Rel B w' σ' := by
  unfold wrs at hw
  split at hw <;> first | contradiction | skip
  rename_i c ty hm
  split at hw <;> first | contradiction | skip
  rename_i hb
  cases hw
  simpa using run_storeCells (P := P) hb.1 vs 0 σ w c h hm (by simpa using hb.2.1) hb.2.2

theorem opK_store {t : TypeId} {x v : Operand} {ty : TypeId} {ρ : Operand → Value} {K : Value → St → Prop} (h : bindK (stv P σ t (ρ x) (ρ v)) fun σ' => K undef σ') :
    OpK P B (.store t x v) ty ρ σ K := by
  intro w hw
  obtain ⟨σ', hs, hK⟩ := h
  unfold stv at hs
  split at hs <;> first | contradiction | skip
  rename_i a b n hx ht
  split at hs <;> first | contradiction | skip
  rename_i hn
  obtain ⟨d, i, hu, hi, hin, hag⟩ := tk_spec (w := w) ht
  obtain ⟨w', hw', h'⟩ := run_wrs (P := P) hw hs
  have : (execOp ρ { dst := none, op := .store t x v, type := ty, pos := "", after := #[], guard := none }).run P w = .ok .skip w' := by
    simp [execOp, Instr.storeAt, hx, Instr.sureAddr, storeVar, run_sz hi, hin, hn, hw']
  rw [this]
  exact ⟨σ', h', hK⟩

theorem opK_box {t : TypeId} {x : Operand} {ty : TypeId} {ρ : Operand → Value} {K : Value → St → Prop} (h : K (.pointer (some ⟨σ.n, 0, none⟩)) (σ.new (.cells (ρ x).cells t (0, 0)))) :
    OpK P B (.box t x) ty ρ σ K := by
  intro w hw
  have : (execOp ρ { dst := none, op := .box t x, type := ty, pos := "", after := #[], guard := none }).run P w =
      .ok (.value (.pointer (some ⟨w.heap.size, 0, none⟩))) { w with heap := w.heap.push (.cells (ρ x).cells t) } := by
    simp [execOp, Instr.box, newVar, newRow]
  rw [this, hw.size]
  exact ⟨_, hw.new _, h⟩

theorem opK_alloc {t : TypeId} {ty : TypeId} {ρ : Operand → Value} {K : Value → St → Prop} (h : bindK (zr P t) fun z => K (.pointer (some ⟨σ.n, 0, none⟩)) (σ.new (.cells z.cells t (0, 0)))) :
    OpK P B (.alloc t) ty ρ σ K := by
  intro w hw
  obtain ⟨z, hz, hK⟩ := h
  have : (execOp ρ { dst := none, op := .alloc t, type := ty, pos := "", after := #[], guard := none }).run P w =
      .ok (.value (.pointer (some ⟨w.heap.size, 0, none⟩))) { w with heap := w.heap.push (.cells z.cells t) } := by
    simp [execOp, Instr.alloc, run_zr hz, newVar, newRow]
  rw [this, hw.size]
  exact ⟨_, hw.new _, hK⟩

/-- 'make([]T, n)', 'make([]T, n, c)'. -/
def mkS (P : Program) (t : TypeId) (l c : Value) (σ : St) (K : Value → St → Prop) : Prop :=
  match l, c, se P t with
  | .int _ l, .int _ c, some (e, s, by_) => ((0 ≤ l ∧ l ≤ c ∧ c < 2 ^ 62 ∧ by_ * c ≤ 2 ^ 48)) ∧
      bindK (zr P e) fun z => K (.slice (some ⟨σ.n, 0, none⟩) l.toNat c.toNat) (σ.new (.cells (if c.toNat * s = 0 then #[] else zcells z.cells (c.toNat * s)) e (0, 0)))
  | _, _, _ => False

theorem wrap_i64 {x : Int} (h : -9223372036854775808 ≤ x ∧ x ≤ 9223372036854775807) : IntKind.i64.wrap x = x := by
  simp only [IntKind.wrap, IntKind.bits, IntKind.signed]
  simp
  omega

theorem opK_makeSlice {t : TypeId} {x y : Operand} {ty : TypeId} {ρ : Operand → Value} {K : Value → St → Prop} (h : mkS P t (ρ x) (ρ y) σ K) :
    OpK P B (.makeSlice t x y) ty ρ σ K := by
  intro w hw
  unfold mkS at h
  split at h <;> first | contradiction | skip
  rename_i k1 l k2 c e s bs hx hy hse
  obtain ⟨⟨h1, h2, h3, h4⟩, z, hz, hK⟩ := h
  unfold se at hse
  split at hse <;> first | contradiction | skip
  rename_i e' hu
  cases hi : P.info? e' with
  | none => simp [hi] at hse
  | some i =>
    simp only [hi, Option.map_some, Option.some.injEq, Prod.mk.injEq] at hse
    obtain ⟨rfl, rfl, rfl⟩ := hse
    have hl : IntKind.i64.wrap l = l := wrap_i64 (by omega)
    have hc : IntKind.i64.wrap c = c := wrap_i64 (by omega)
    have hns : ¬ ((c < 0 ∨ 281474976710656 < (i.bytes : Int) * c) ∨ l < 0) := by omega
    have hns3 : ¬ c < l := by omega
    have : (execOp ρ { dst := none, op := .makeSlice t x y, type := ty, pos := "", after := #[], guard := none }).run P w =
        .ok (.value (.slice (some ⟨w.heap.size, 0, none⟩) l.toNat c.toNat)) { w with heap := w.heap.push (.cells (if c.toNat * i.size = 0 then #[] else zcells z.cells (c.toNat * i.size)) e') } := by
      simp only [execOp, Instr.makeSlice, Sem.run_bind, run_und hu, Result.andThen_ok, hx, hy, asInt, asIntOf, Sem.run_pure, run_tyi hi, hl, hc]
      rw [if_neg (by simpa [hns3] using hns)]
      simp only [Sem.run_pure, Result.andThen_ok, run_askRoom, Sem.run_bind, run_sz hi]
      by_cases h0 : c.toNat * i.size = 0
      · have hr : (Array.range 0).map (fun _ => (default : Value)) = #[] := by simp [Array.range]
        simp [h0, newRow, hr]
      · simp [h0, zcells, newRow, run_zr hz]
    rw [this, hw.size]
    exact ⟨_, hw.new _, hK⟩

/-- A literal slice: '[]T{..}'. -/
def bsl (P : Program) (t : TypeId) (n : Nat) (parts : List (Nat × Value)) (σ : St) (K : Value → St → Prop) : Prop :=
  bindK (se P t) fun (e, s, _) => bindK (zr P e) fun z => n * s ≤ 2 ^ 24 ∧
    bindK (Instr.fill (fun i => some (i * s, s)) (zcells z.cells (n * s)) parts) fun cs => K (.slice (some ⟨σ.n, 0, none⟩) n n) (σ.new (.cells cs e (0, 0)))

theorem se_spec {t e : TypeId} {s b : Nat} (h : se P t = some (e, s, b)) : ∃ i, P.underlying t = some (.slice e) ∧ P.info? e = some i ∧ i.size = s ∧ i.bytes = b := by
  unfold se at h
  split at h <;> first | contradiction | skip
  rename_i e' hu
  cases hi : P.info? e' with
  | none => simp [hi] at h
  | some i =>
    simp only [hi, Option.map_some, Option.some.injEq, Prod.mk.injEq] at h
    obtain ⟨rfl, rfl, rfl⟩ := h
    exact ⟨i, hu, hi, rfl, rfl⟩

theorem opK_buildSlice {t : TypeId} {n : Nat} {parts : Array (Nat × Operand)} {ty : TypeId} {ρ : Operand → Value} {K : Value → St → Prop}
    (h : bsl P t n (parts.toList.map fun (i, x) => (i, ρ x)) σ K) : OpK P B (.buildSlice t n parts) ty ρ σ K := by
  intro w hw
  obtain ⟨⟨e, s, b⟩, hse, z, hz, h24, cs, hf, hK⟩ := h
  obtain ⟨i, hu, hi, rfl, rfl⟩ := se_spec hse
  have hfill : Instr.fill (fun j => some (j * i.size, i.size)) ((Array.range (n * i.size)).map (z.cells[· % z.cells.size]!)) ((parts.map fun (i, x) => (i, ρ x)).toList) = some cs := by
    have : (parts.map fun (i, x) => (i, ρ x)).toList = parts.toList.map fun (i, x) => (i, ρ x) := by simp
    rw [this]; exact hf
  have : (execOp ρ { dst := none, op := .buildSlice t n parts, type := ty, pos := "", after := #[], guard := none }).run P w =
      .ok (.value (.slice (some ⟨w.heap.size, 0, none⟩) n n)) { w with heap := w.heap.push (.cells cs e) } := by
    simp only [execOp, Instr.buildSlice, Sem.run_bind, run_und hu, Result.andThen_ok, run_sz hi]
    rw [if_neg (by omega)]
    by_cases h0 : n * i.size = 0
    · have hr : (Array.range 0).map (fun x => (#[] : Array Value)[x % 0]!) = #[] := by simp [Array.range]
      have hr' : (Array.range 0).map (z.cells[· % z.cells.size]!) = #[] := by simp [Array.range]
      rw [if_pos h0]
      rw [h0, hr'] at hfill
      simp only [Sem.run_pure, Result.andThen_ok, Sem.run_bind, h0, List.size_toArray, List.length_nil, hr, hfill, newRow, run_newObj]
    · rw [if_neg h0]
      simp only [Sem.run_pure, Result.andThen_ok, Sem.run_bind, run_zr hz, hfill, newRow, run_newObj]
  rw [this, hw.size]
  exact ⟨_, hw.new _, hK⟩

/-! ### append -/
/-- What is appended: how many elements, and their cells. -/
def fc (B : World) (σ : St) (s : Nat) : Value → Option (Nat × List Value)
  | .slice (some a) n _ => (rds B σ a 0 (n * s)).map fun l => (n, l)
  | .slice none n _ => some (n, [])
  | .string b => some (b.size, b.data.toList.map fun c => .int .u8 c.toNat)
  | _ => none

theorem run_fc (h : Rel B w σ) {s n : Nat} {x : Value} {l : List Value} (hx : fc B σ s x = some (n, l)) :
    (∀ w' : World, (Builtin.lenOf x).run P w' = .ok n w') ∧ (Builtin.firstCells s n x).run P w = .ok l.toArray w := by
  unfold fc at hx
  split at hx <;> first | contradiction | skip
  · rename_i a m cap
    simp only [Option.map_eq_some_iff, Prod.mk.injEq] at hx
    obtain ⟨l', hl, rfl, rfl⟩ := hx
    refine ⟨fun _ => rfl, ?_⟩
    simp only [Builtin.firstCells, loadCells, run_loadCells h a _ 0 #[] _ hl, Array.empty_append]
  · cases hx; exact ⟨fun _ => rfl, rfl⟩
  · rename_i b
    cases hx
    refine ⟨fun _ => rfl, ?_⟩
    exact firstCells_string (P := P) b w

theorem nextcap_le (need cap : Nat) (h : cap < need) : Builtin.nextslicecap need cap ≤ 2 * need + 768 := by
  have grow : ∀ (r c : Nat), c ≤ 2 * need + 768 → Builtin.growBy need r c ≤ 2 * need + 768 := by
    intro r
    induction r with
    | zero => intro c hc; simpa [Builtin.growBy] using hc
    | succ r ih =>
      intro c hc
      simp only [Builtin.growBy]
      split
      · exact hc
      · exact ih _ (by omega)
  unfold Builtin.nextslicecap
  split
  · omega
  · split
    · omega
    · exact grow _ _ (by omega)

/-- 'append(s, x)'. -/
def appS (P : Program) (B : World) (σ : St) (t xt : TypeId) (sv xv : Value) (K : Value → St → Prop) : Prop :=
  ∃ base len cap e s b n ys z, sv = .slice base len cap ∧ se P t = some (e, s, b) ∧ (kd P xt = .string ∨ kd P xt = .slice) ∧ fc B σ s xv = some (n, ys) ∧ zr P e = some z ∧ b ≠ 0 ∧
    ys.length = n * s ∧ ys.all Value.oneCell' = true ∧
    (len + n ≤ cap → ∃ σ', (match base with | none => σ' = σ | some a => wrs σ (a.add (len * s)) ys = some σ') ∧ K (.slice base (len + n) cap) σ') ∧
    (cap < len + n → (2 * (len + n) + 768) * b ≤ 2 ^ 48 ∧ ∃ old, fc B σ s sv = some (len, old) ∧
      ∀ nc, len + n ≤ nc → K (.slice (some ⟨σ.n, 0, none⟩) (len + n) nc) (σ.new (.cells ((old ++ ys).toArray ++ Builtin.zeroCells z.cells (nc - (len + n))) e (0, 0))))

theorem opK_append {a x : Operand} {t xt : TypeId} {ty : TypeId} {ρ : Operand → Value} {K : Value → St → Prop} (h : appS P B σ t xt (ρ a) (ρ x) K) :
    OpK P B (.call ⟨.builtin .append, #[a, x], #[t, xt]⟩) ty ρ σ K := by
  intro w hw
  obtain ⟨base, len, cap, e, s, b, n, ys, z, hsv, hse, hxt, hfc, hz, hb0, hyl, hy1, hfit, hgrow⟩ := h
  obtain ⟨i, hu, hi, rfl, rfl⟩ := se_spec hse
  obtain ⟨hlen, hnew⟩ := run_fc (P := P) hw hfc
  have hnewD := (run_fc (P := P) (hw.drawn (w.drawn + 1)) hfc).2
  have hkind : (∃ e', P.underlying xt = some (.slice e')) ∨ P.underlying xt = some .string := by
    rcases hxt with hk | hk
    · obtain ⟨d, hd, hdd⟩ := kd_und hk (by simp)
      cases d <;> first | exact hdd.elim | exact .inr hd
    · obtain ⟨d, hd, hdd⟩ := kd_und hk (by simp)
      cases d <;> first | exact hdd.elim | exact .inl ⟨_, hd⟩
  have hz' : i.zero = some z := by simpa [zr, hi] using hz
  have hs : Src P i.size xt (ρ x) n ys w := ⟨hkind, hlen, hnew, hnewD, hyl, fun u hu => List.all_eq_true.1 hy1 u hu⟩
  have hbu : ∀ q, (builtin .append #[t, xt] ty q #[ρ a, ρ x]).run P w = ((Builtin.append_ #[t, xt] ty #[ρ a, ρ x]).run P w).andThen fun v w' => .ok (.value v) w' := by
    intro q; simp [builtin]
  have hex : (execOp ρ { dst := none, op := .call ⟨.builtin .append, #[a, x], #[t, xt]⟩, type := ty, pos := "", after := #[], guard := none }).run P w =
      ((Builtin.append_ #[t, xt] ty #[ρ a, ρ x]).run P w).andThen fun v w' => .ok (.value v) w' := by
    simp only [execOp, resolve, List.map_toArray, List.map_cons, List.map_nil, Sem.run_bind, Sem.run_pure, Result.andThen_ok, invoke]
    exact hbu _
  rw [hex, hsv]
  by_cases hf : len + n ≤ cap
  · obtain ⟨σ', hσ, hK⟩ := hfit hf
    cases base with
    | none =>
      subst hσ
      have : (Builtin.append_ #[t, xt] ty #[.slice none len cap, ρ x]).run P w = .ok (.slice none (len + n) cap) w := by
        rcases hkind with ⟨e', hk⟩ | hk <;> simp [Builtin.append_, run_underlying hu, run_underlying hk, sizeOf, typeInfo, hi, hlen, hf, hnew]
      rw [this]
      exact ⟨_, hw, hK⟩
    | some ad =>
      obtain ⟨w', hw', hr⟩ := run_wrs (P := P) hw hσ
      have : (Builtin.append_ #[t, xt] ty #[.slice (some ad) len cap, ρ x]).run P w = .ok (.slice (some ad) (len + n) cap) w' := by
        rcases hkind with ⟨e', hk⟩ | hk <;> simp [Builtin.append_, run_underlying hu, run_underlying hk, sizeOf, typeInfo, hi, hlen, hf, hnew, hw']
      rw [this]
      exact ⟨_, hr, hK⟩
  · obtain ⟨hsz, old, hold, hK⟩ := hgrow (by omega)
    have hold' := (run_fc (P := P) (hw.drawn (w.drawn + 1)) hold).2
    have hnc := nextcap_le (len + n) cap (by omega)
    have hle : Builtin.nextslicecap (len + n) cap * i.bytes ≤ 2 ^ 48 := Nat.le_trans (Nat.mul_le_mul_right _ hnc) hsz
    have h1 : 2 * (len + n) + 768 ≤ (2 * (len + n) + 768) * i.bytes := Nat.le_mul_of_pos_right _ (by omega)
    rw [hsv] at hold'
    rw [run_append_grow_src w t xt ty e i z hu hi hz' base len cap old hold' (ρ x) n ys hs (by omega) (by omega) hle]
    have hcap : len + n ≤ grownCap w (len + n) cap e := by simp only [grownCap, Question.cut]; omega
    have hsz' := hw.size
    have hr := (hw.drawn (w.drawn + 1)).new (.cells ((old ++ ys).toArray ++ Builtin.zeroCells z.cells (grownCap w (len + n) cap e - (len + n))) e)
    refine ⟨_, hr, ?_⟩
    rw [hsz']
    exact hK _ hcap

/-! ### Maps -/
theorem findNow_at {d : TypeDesc} {k : Value} : ∀ (es : List MapEntry) (j i : Nat) (v : Value), Instr.findNow d k es j = some (some (i, v)) → ∃ e, j ≤ i ∧ es[i - j]? = some e ∧ Instr.sameNow d k e.key = some true
  | [], _, _, _, h => by simp [Instr.findNow] at h
  | e :: es, j, i, v, h => by
    unfold Instr.findNow at h
    split at h
    · rename_i hs
      simp only [Option.some.injEq, Prod.mk.injEq] at h
      obtain ⟨rfl, _⟩ := h
      exact ⟨e, Nat.le_refl _, by simp, hs⟩
    · obtain ⟨e', h1, h2, h3⟩ := findNow_at es (j + 1) i v h
      refine ⟨e', by omega, ?_, h3⟩
      have : i - j = (i - (j + 1)) + 1 := by omega
      rw [this]; simpa using h2
    · cases h
theorem same_bits {d : TypeDesc} {k k' : Value} (h : Instr.sameNow d k k' = some true) (n : Nat) : Instr.sameBits n k' k = true := by
  unfold Instr.sameNow at h
  split at h <;> first | contradiction | skip
  · split at h <;> first | contradiction | skip
    rename_i e; subst e
    simp only [Option.some.injEq, beq_iff_eq] at h
    subst h
    cases n <;> simp [Instr.sameBits]
  · simp only [Option.some.injEq] at h
    rename_i a b
    have hab : (b == a) = true := by
      rw [beq_toListBytes] at h ⊢
      simp only [beq_iff_eq] at h ⊢
      exact h.symm
    cases n <;> simp [Instr.sameBits, hab]
  · simp only [Option.some.injEq, beq_iff_eq] at h
    subst h
    cases n <;> simp [Instr.sameBits]

/-- 'm[k] = v'. -/
def musK (d : TypeDesc) (r : Nat) (k v : Value) (σ : St) : Option HP → Option St
  | some (.raw (.map es c)) =>
    match Instr.findNow d k es.toList 0 with
    | some (some (i, _)) => some (σ.set r (.raw (.map (es.modify i fun e => { e with key := k, val := v }) c)))
    | some none => some (σ.set r (.raw (.map (es.push { key := k, val := v, born := c }) (c + 1))))
    | none => none
  | _ => none
def mus (P : Program) (σ : St) (t : TypeId) (m k v : Value) : Option St :=
  match P.underlying t, m with
  | some (.map key _), .map (some r) =>
    match P.underlying key with
    | some d => if plainKey d then musK d r k v σ (σ.m r) else none
    | none => none
  | _, _ => none

theorem opK_mapUpdate {t : TypeId} {m k v : Operand} {ty : TypeId} {ρ : Operand → Value} {K : Value → St → Prop} (h : bindK (mus P σ t (ρ m) (ρ k) (ρ v)) fun σ' => K undef σ') :
    OpK P B (.mapUpdate t m k v) ty ρ σ K := by
  intro w hw
  obtain ⟨σ', hs, hK⟩ := h
  unfold mus at hs
  split at hs <;> first | contradiction | skip
  rename_i key elem r hu hm
  split at hs <;> first | contradiction | skip
  rename_i d hd
  split at hs <;> first | contradiction | skip
  rename_i hp
  unfold musK at hs
  split at hs <;> first | contradiction | skip
  rename_i es c hr
  have hl := hw.raw hr
  have hset : ∀ o, (setObj r o).run P w = .ok () { w with heap := w.heap.setIfInBounds r o } := fun o => by simp only [setObj, Sem.run, hl]
  split at hs <;> first | contradiction | skip
  · rename_i i v0 hf
    cases hs
    obtain ⟨e, _, he, hsame⟩ := findNow_at _ _ _ _ hf
    have he' : es[i]? = some e := by simpa using he
    have : (execOp ρ { dst := none, op := .mapUpdate t m k v, type := ty, pos := "", after := #[], guard := none }).run P w =
        .ok .skip { w with heap := w.heap.setIfInBounds r (.map (es.modify i fun e => { e with key := ρ k, val := ρ v }) c) } := by
      simp [execOp, Instr.mapUpdate, run_und hu, hm, getObj, Sem.run, hl, run_checkKey hd hp, run_findKey hd hf, he', Instr.keyThatStays, same_bits hsame, hset]
    rw [this]
    exact ⟨_, hw.upd hr _, hK⟩
  · rename_i hf
    cases hs
    have : (execOp ρ { dst := none, op := .mapUpdate t m k v, type := ty, pos := "", after := #[], guard := none }).run P w =
        .ok .skip { w with heap := w.heap.setIfInBounds r (.map (es.push { key := ρ k, val := ρ v, born := c }) (c + 1)) } := by
      simp [execOp, Instr.mapUpdate, run_und hu, hm, getObj, Sem.run, hl, run_checkKey hd hp, run_findKey hd hf, hset]
    rw [this]
    exact ⟨_, hw.upd hr _, hK⟩

theorem opK_makeMap {t : TypeId} {ty : TypeId} {ρ : Operand → Value} {K : Value → St → Prop} (h : K (.map (some σ.n)) (σ.new (.map #[] 0))) : OpK P B (.makeMap t none) ty ρ σ K := by
  intro w hw
  have : (execOp ρ { dst := none, op := .makeMap t none, type := ty, pos := "", after := #[], guard := none }).run P w =
      .ok (.value (.map (some w.heap.size))) { w with heap := w.heap.push (.map #[] 0) } := by
    simp [execOp, Instr.makeMap]
  rw [this, hw.size]
  exact ⟨_, hw.new _, h⟩
end
end Go.Proofs.YtdbgeahmhfocaaaGreat

/- Code by the view of memory: what a piece of a function's body comes to, in whatever order the machine draws. -/
namespace Go.Proofs.YtdbgeahmhfocaaaGreat
set_option linter.unusedSimpArgs false
set_option linter.unusedVariables false
open Go Go.RowKit

/-! ### Frames -/
structure Fr where
  v : Nat → Value
  d : List Deferred

def ev (e : Fr) : Operand → Value
  | .tmp t => e.v t
  | .const v => v
  | .global g => .pointer (some ⟨g, 0, none⟩)
  | .func f => .func (.func f) #[] #[]

def Fr.put (e : Fr) (d : Option Tmp) (x : Value) : Fr :=
  match d with
  | some i => { e with v := fun t => if t = i then x else e.v t }
  | none => e

theorem ev_tmp (e : Fr) (t : Nat) : ev e (.tmp t) = e.v t := rfl
theorem ev_const (e : Fr) (v : Value) : ev e (.const v) = v := rfl
theorem ev_global (e : Fr) (g : Nat) : ev e (.global g) = .pointer (some ⟨g, 0, none⟩) := rfl
theorem ev_func (e : Fr) (f : FuncId) : ev e (.func f) = .func (.func f) #[] #[] := rfl
theorem put_none (e : Fr) (x : Value) : e.put none x = e := rfl
theorem put_same (e : Fr) (i : Nat) (x : Value) : (e.put (some i) x).v i = x := by simp [Fr.put]
theorem put_ne (e : Fr) {i t : Nat} (x : Value) (h : t ≠ i) : (e.put (some i) x).v t = e.v t := by simp [Fr.put, h]
theorem put_d (e : Fr) (i : Option Nat) (x : Value) : (e.put i x).d = e.d := by cases i <;> rfl

/-- The machine's frame is as 'e' says; it has 'n' slots. -/
structure Is (a : Act) (n : Nat) (e : Fr) : Prop where
  size : a.tmps.size = n
  v : ∀ t, a.tmps.getD t undef = e.v t
  d : a.defers = e.d

theorem Is.eval {a : Act} {n : Nat} {e : Fr} (h : Is a n e) : a.eval = ev e := by
  funext x
  cases x <;> first | rfl | exact h.v _

theorem Is.put {a : Act} {n : Nat} {e : Fr} (h : Is a n e) (d : Option Tmp) (x : Value) (hd : ∀ i, d = some i → i < n) : Is (a.put d x) n (e.put d x) := by
  cases d with
  | none => exact h
  | some i =>
    have hi := hd i rfl
    refine ⟨by simp [Act.put, h.size], fun t => ?_, h.d⟩
    by_cases e1 : t = i
    · subst e1; simp [Act.put, Fr.put, h.size, hi]
    · have := h.v t
      simp only [Array.getD_eq_getD_getElem?] at this
      simp [Act.put, Fr.put, e1, Array.getElem?_setIfInBounds_ne (Ne.symm e1), this]

def boolOf : Value → Option Bool
  | .bool b => some b
  | _ => none

/-- A guard's slot, and the outcome that it waits for. -/
def gd (ops : Array Oper) (o : Oper) (e : Fr) : Bool :=
  match o.guard with
  | none => true
  | some (j, want) => match (ops[j]?).bind (·.dst) with | some t => boolOf (e.v t) == some want | none => false

theorem boolOf_getD (x : Option Value) (want : Bool) : ((match x with | some (.bool b) => some b | _ => none : Option Bool) == some want) = (boolOf (x.getD undef) == some want) := by
  cases x with
  | none => rfl
  | some x => cases x <;> rfl

theorem wanted_gd {a : Act} {n : Nat} {e : Fr} (h : Is a n e) (ops : Array Oper) (o : Oper) : Region.wanted o (yielded ops a.tmps) = gd ops o e := by
  unfold Region.wanted gd
  cases o.guard with
  | none => rfl
  | some g =>
    obtain ⟨j, want⟩ := g
    simp only [yielded]
    cases (ops[j]?).bind (·.dst) with
    | none => rfl
    | some t =>
      simp only
      have := h.v t
      simp only [Array.getD_eq_getD_getElem?] at this
      rw [← this]
      exact boolOf_getD _ want

/-! ### One operation -/
def isQ : Op → Bool
  | .move _ | .assign _ | .pick .. | .nilCheck _ | .binOp .. | .unOp .. | .convert .. | .fieldAddr .. | .field .. | .indexAddr .. | .index .. | .extract .. | .slice .. | .load ..
  | .makeFunc .. | .build .. | .makeInterface .. | .lookup .. => true
  | .call c => match c.callee with | .builtin .len | .builtin .cap | .builtin .max | .builtin .min => true | _ => false
  | _ => false

section
variable (P : Program) (B : World)

/-- What is asked of an operation that writes, makes memory, or calls. -/
def effS (p : Op) (ty : TypeId) (ρ : Operand → Value) (σ : St) (K : Value → St → Prop) : Prop :=
  match p with
  | .store t a x => bindK (stv P σ t (ρ a) (ρ x)) fun σ' => K undef σ'
  | .alloc t => bindK (zr P t) fun z => K (.pointer (some ⟨σ.n, 0, none⟩)) (σ.new (.cells z.cells t (0, 0)))
  | .box t x => K (.pointer (some ⟨σ.n, 0, none⟩)) (σ.new (.cells (ρ x).cells t (0, 0)))
  | .makeSlice t l c => mkS P t (ρ l) (ρ c) σ K
  | .buildSlice t n parts => bsl P t n (parts.toList.map fun (i, x) => (i, ρ x)) σ K
  | .mapUpdate t m k x => bindK (mus P σ t (ρ m) (ρ k) (ρ x)) fun σ' => K undef σ'
  | .makeMap _ none => K (.map (some σ.n)) (σ.new (.map #[] 0))
  | .call c =>
    match c.callee with
    | .value f => FnV P B (ρ f) (c.args.map ρ) σ K
    | .builtin .append => (c.args.size = 2 ∧ c.argTypes.size = 2) ∧ appS P B σ (c.argTypes.getD 0 0) (c.argTypes.getD 1 0) (ρ (c.args.getD 0 (.func 0))) (ρ (c.args.getD 1 (.func 0))) K
    | _ => OpK P B p ty ρ σ K
  | p => OpK P B p ty ρ σ K

theorem two_lit {α : Type} {x : Array α} (h : x.size = 2) (d : α) : x = #[x.getD 0 d, x.getD 1 d] := by
  apply Array.ext
  · simp [h]
  · intro i h1 h2
    have : i = 0 ∨ i = 1 := by omega
    rcases this with rfl | rfl <;> simp [Array.getD, h]

theorem effS_sound {p : Op} {ty : TypeId} {ρ : Operand → Value} {σ : St} {K : Value → St → Prop} (h : effS P B p ty ρ σ K) : OpK P B p ty ρ σ K := by
  unfold effS at h
  split at h
  · exact opK_store h
  · exact opK_alloc h
  · exact opK_box h
  · exact opK_makeSlice h
  · exact opK_buildSlice h
  · exact opK_mapUpdate h
  · exact opK_makeMap h
  · rename_i c
    split at h
    · rename_i f hc
      obtain ⟨ce, as, ts⟩ := c
      simp only at hc h
      subst hc
      exact opK_call h
    · rename_i hc
      obtain ⟨ce, as, ts⟩ := c
      simp only at hc h
      subst hc
      obtain ⟨⟨h1, h2⟩, h⟩ := h
      rw [two_lit h1 (.func 0), two_lit h2 0]
      exact opK_append h
    · exact h
  · exact h

/-- A function value and its arguments, as a 'defer' statement lays them. -/
def dfr (g : Value) (args : Array Value) : Option Deferred :=
  match g with
  | .func fn first cap => some { target := .fn fn cap, args := first ++ args }
  | _ => none

/-- A value is there: it goes into its slot. -/
def stepQ (x : Option Value) (d : Option Tmp) (K : Fr → St → Prop) (e : Fr) (σ : St) : Prop := ∃ v, x = some v ∧ K (e.put d v) σ
/-- The next view is there. -/
def stepS (x : Option St) (d : Option Tmp) (K : Fr → St → Prop) (e : Fr) : Prop := ∃ σ', x = some σ' ∧ K (e.put d undef) σ'
def stepD (x : Option Deferred) (d : Option Tmp) (K : Fr → St → Prop) (e : Fr) (σ : St) : Prop := ∃ y, x = some y ∧ K (({ e with d := y :: e.d } : Fr).put d undef) σ
def skipK (d : Option Tmp) (K : Fr → St → Prop) (e : Fr) (σ : St) : Prop := K (e.put d undef) σ
/-- A branch. -/
def brS (b : Bool) (x y : Fr → St → Prop) (e : Fr) (σ : St) : Prop := (b = true → x e σ) ∧ (b = false → y e σ)
def brV (v : Value) (x y : Fr → St → Prop) (e : Fr) (σ : St) : Prop := match v with | .bool b => brS b x y e σ | _ => False

def opS (o : Oper) (K : Fr → St → Prop) (e : Fr) (σ : St) : Prop :=
  match isQ o.op with
  | true => stepQ (qv P B o.op (ev e) σ) o.dst K e σ
  | false =>
    match o.op with
    | .defer c => match c.callee with | .value f => stepD (dfr (ev e f) (c.args.map (ev e))) o.dst K e σ | _ => False
    | p => effS P B p o.type (ev e) σ fun v σ' => K (e.put o.dst v) σ'

def runL (ops : Array Oper) : List Oper → (Fr → St → Prop) → Fr → St → Prop
  | [], K, e, σ => K e σ
  | o :: rest, K, e, σ => brS (gd ops o e) (opS P B o (runL ops rest K)) (skipK o.dst (runL ops rest K)) e σ
end

/-- The fence of a frame: it is a round of range over a function 'l', or none. -/
def FR (r : Option Nat) : Fence := { Fence.wide with round := r }

theorem FR_room (r : Option Nat) (k : Nat) : (FR r).room k := fun _ h => by simp [FR, Fence.wide] at h

theorem callsIn_FR {r : Option Nat} {n : Nat} {P : Program} {f : FuncId} {args : Array Value} {w : World} {R : Ending → World → Prop} (h : Calls P f args w R) : CallsIn (FR r) n P f args w R :=
  (callsIn_wide (n := n)).2 h

section
variable {P : Program} {B : World} {σ : St}

theorem execOp_same (ρ : Operand → Value) (o : Oper) : execOp ρ { dst := none, op := o.op, type := o.type, pos := "", after := #[], guard := none } = execOp ρ o := by
  cases o; rfl

theorem NextR.upon {r : Option Nat} {o : Oper} {a : Act} {K : Value → St → Prop} {next : Act → World → Prop} {Q : Exit → Act → World → Prop} {x : Result Next}
    (h : NextR P B x K) (hn : ∀ v σ' w', Rel B w' σ' → K v σ' → next (a.put o.dst v) w') : o.uponIn (FR r) 0 P a next Q x := by
  unfold NextR at h
  split at h <;> first | contradiction | skip
  · obtain ⟨σ', hr, hK⟩ := h; exact hn _ _ _ hr hK
  · obtain ⟨σ', hr, hK⟩ := h; exact hn _ _ _ hr hK
  · refine ⟨fun h => by simp [FR, Fence.wide] at h, callsIn_FR (h.mono ?_)⟩
    rintro e w'' ⟨v, σ', rfl, hr, hK⟩
    exact hn _ _ _ hr hK
  · refine ⟨fun h => by simp [FR, Fence.wide] at h, RoundIn.mono (F := FR r) (R := retP B K) h ?_⟩
    rintro e w'' ⟨v, σ', rfl, hr, hK⟩
    exact hn _ _ _ hr hK

theorem isQ_defer {o : Oper} (h : ∃ c, o.op = .defer c) : isQ o.op = false := by obtain ⟨c, h⟩ := h; rw [h]; rfl

/-- An operation, in the machine's own words. -/
theorem opS_wp {r : Option Nat} {n : Nat} {o : Oper} {a : Act} {e : Fr} {w : World} {K : Fr → St → Prop} {next : Act → World → Prop} {Q : Exit → Act → World → Prop}
    (hd : r = none ∨ ∀ c, o.op ≠ .defer c) (hdst : ∀ i, o.dst = some i → i < n) (ha : Is a n e) (hw : Rel B w σ) (h : opS P B o K e σ)
    (hn : ∀ a' e' σ' w', Is a' n e' → Rel B w' σ' → K e' σ' → next a' w') : o.wpIn (FR r) 0 P a w next Q := by
  refine ⟨fun _ _ => trivial, ?_⟩
  have hsem : o.semAt (FR r).round a.eval = execOp (ev e) o := by
    rw [ha.eval]
    rcases hd with rfl | hd
    · rfl
    · exact Oper.semAt_eq _ _ _ hd
  rw [hsem]
  unfold opS at h
  split at h
  · obtain ⟨v, hq, hK⟩ := h
    rw [run_qv hw hq o rfl]
    exact hn _ _ _ _ (ha.put _ _ hdst) hw hK
  · split at h
    · rename_i c hop
      split at h <;> first | contradiction | skip
      rename_i f hc
      obtain ⟨d, hd', hK⟩ := h
      unfold dfr at hd'
      split at hd' <;> first | contradiction | skip
      rename_i fn first cap hf
      cases hd'
      have : (execOp (ev e) o).run P w = .ok (.defer { target := .fn fn cap, args := first ++ c.args.map (ev e) }) w := by
        simp [execOp, hop, resolve, hc, Deferred.ofValue, hf]
      rw [this]
      have ha' : Is { a with defers := { target := .fn fn cap, args := first ++ c.args.map (ev e) } :: a.defers } n { e with d := { target := .fn fn cap, args := first ++ c.args.map (ev e) } :: e.d } :=
        ⟨ha.size, ha.v, by simp [ha.d]⟩
      exact hn _ _ _ _ (ha'.put _ _ hdst) hw hK
    · have := effS_sound P B h w hw
      rw [execOp_same] at this
      exact this.upon fun v σ' w' hr hK => hn _ _ _ _ (ha.put _ _ hdst) hr hK

/-- A region in the text's order. -/
theorem runL_wp {r : Option Nat} {n : Nat} {ops : Array Oper} {Q : Exit → Act → World → Prop} {K : Fr → St → Prop} :
    ∀ (l : List Oper) (k : Nat) (e : Fr) (σ : St) (a : Act) (w : World), (∀ j, l[j]? = ops[k + j]?) → (r = none ∨ ∀ o ∈ l, ∀ c, o.op ≠ .defer c) → (∀ o ∈ l, ∀ i, o.dst = some i → i < n) →
      Is a n e → Rel B w σ → runL P B ops l K e σ → (∀ a' e' σ' w', Is a' n e' → Rel B w' σ' → K e' σ' → Q .normal a' w') →
      wpOpsIn (FR r) 0 P ops Q ((List.range l.length).map (k + ·)) a w
  | [], k, e, σ, a, w, _, _, _, ha, hw, h, hn => hn _ _ _ _ ha hw h
  | o :: l, k, e, σ, a, w, hl, hd, hdst, ha, hw, h, hn => by
    have h0 : ops[k]? = some o := by simpa using (hl 0).symm
    have hmap : (List.range (o :: l).length).map (k + ·) = k :: (List.range l.length).map (k + 1 + ·) := by
      simp only [List.length_cons, List.range_succ_eq_map, List.map_cons, List.map_map, Nat.add_zero, List.cons.injEq, true_and]
      refine List.map_congr_left fun x _ => ?_
      simp only [Function.comp]; omega
    rw [hmap]
    simp only [wpOpsIn, h0, wanted_gd ha]
    have hl' : ∀ j, l[j]? = ops[k + 1 + j]? := fun j => by have := hl (j + 1); simpa [Nat.add_assoc, Nat.add_comm 1 j] using this
    obtain ⟨h1, h2⟩ := h
    have hnext : ∀ a' e' σ' w', Is a' n e' → Rel B w' σ' → runL P B ops l K e' σ' → wpOpsIn (FR r) 0 P ops Q ((List.range l.length).map (k + 1 + ·)) a' w' :=
      fun a' e' σ' w' ha' hw' h' => runL_wp l (k + 1) e' σ' a' w' hl' (hd.imp id fun h o ho => h o (by simp [ho])) (fun o ho => hdst o (by simp [ho])) ha' hw' h' hn
    cases hg : gd ops o e with
    | true =>
      simp only [if_true]
      exact opS_wp (hd.imp id fun h => h o (by simp)) (hdst o (by simp)) ha hw (h1 hg) hnext
    | false =>
      simp only [Bool.false_eq_true, if_false]
      exact ⟨fun _ _ => trivial, hnext _ _ _ _ (ha.put _ _ (hdst o (by simp))) hw (h2 hg)⟩
end
end Go.Proofs.YtdbgeahmhfocaaaGreat

/- A region that draws its order of evaluation: one walk in the text's order serves every order. -/
namespace Go.Proofs.YtdbgeahmhfocaaaGreat
set_option linter.unusedSimpArgs false
set_option linter.unusedVariables false
open Go Go.RowKit

/-- May the region's text order stand for every order? Each operation waits for whoever writes what it looks at; no slot is written twice. -/
def dok (ops : Array Oper) : Bool :=
  (List.range ops.size).all fun i =>
    match ops[i]? with
    | none => true
    | some o =>
      (match o.op with | .select _ _ => false | .defer _ => false | _ => true) &&
      (o.after.all fun e => !Region.binds .any e || decide (e.on < i)) &&
      ((List.range ops.size).all fun j =>
        match (ops[j]?).bind (·.dst) with
        | none => true
        | some t => (!(o.looksAt ops).contains t || decide (j = i) || (decide (j < i) && Region.waitsFor .any ops i j) || (decide (i < j) && Region.waitsFor .any ops j i)) && (decide (j = i) || o.dst != some t))

def tailB (ops : Array Oper) (i : Nat) : Bool := Region.sinkB .any ops i && Region.chainB .any ops i

/-- Whatever stands ahead of the i-th operation is done ahead of it, whatever stands behind it is done behind it. -/
def cutB (ops : Array Oper) (i : Nat) : Bool := Region.sinkB .any ops i && (List.range ops.size).all fun t => decide (t ≤ i) || (List.range t).any fun j => decide (i ≤ j) && Region.waitsFor .any ops t j

def hasCall (ops : List Oper) : Bool := ops.any fun o => match o.op with | .call ⟨.value _, _, _⟩ => true | _ => false

def upto (c : Bool) (σ : St) (X : St → Prop) : Prop :=
  match c with
  | true => ∀ m, σ.n ≤ m → X (σ.up m)
  | false => X σ

section
variable (P : Program) (B : World)

/-- A call that leaves all as it was, but for new memory that nobody holds. -/
def QC (o : Oper) (e : Fr) (σ : St) (v : Value) : Prop :=
  ∃ f as ts, o.op = .call ⟨.value f, as, ts⟩ ∧ ∀ m, σ.n ≤ m → FnV P B (ev e f) (as.map (ev e)) (σ.up m) fun v' σ' => v' = v ∧ ∃ m', m ≤ m' ∧ σ' = σ.up m'

def pureB : Op → Bool
  | .move _ | .assign _ | .pick .. | .nilCheck _ | .binOp .. | .unOp .. | .convert .. | .fieldAddr .. | .field .. | .indexAddr .. | .index .. | .extract .. | .slice .. | .makeFunc .. | .build .. | .makeInterface .. => true
  | _ => false

def atS (i : Nat) (ops : Array Oper) (l : List Oper) (X : Fr → St → Prop) (e : Fr) (σ : St) : Prop :=
  match l, i with
  | [], _ => False
  | o :: _, 0 => brS (gd ops o e) (opS P B o X) (skipK o.dst X) e σ
  | _ :: l, i + 1 => atS i ops l X e σ

/-- Whatever order the region draws: said by the machine itself. Rules that come later may prove it. -/
def AnyS (ops : Array Oper) (K : Fr → St → Prop) (e : Fr) (σ : St) : Prop :=
  ∀ (r : Option Nat) (n id : Nat) (Q : Exit → Act → World → Prop) (a : Act) (w : World), P.follows .mixedOrders = true → dok ops = true → (∀ (i : Nat) (o : Oper), ops[i]? = some o → ∀ t, o.dst = some t → t < n) →
    Is a n e → Rel B w σ → (∀ a' e' σ' w', Is a' n e' → Rel B w' σ' → K e' σ' → Q .normal a' w') → (Code.region id ops true).wpIn (FR r) 0 P Q a w

/-- A region's make: does it hold a call; is nothing of it past yet that changed memory; the frame that it begins in. -/
structure DC where
  c : Bool
  rn : Bool
  e : Fr

/-- An operation that is not quiet: what follows is in one order; or it parts the region in two; or it is a call that leaves all as it was; or the orders are gone through from the region's beginning on. -/
def effD (ops : Array Oper) (i : Nat) (o : Oper) (rest : List Oper) (K : Fr → St → Prop) (Z : DC → Fr → St → Prop) (c : DC) (e : Fr) (σ : St) : Prop :=
  (tailB ops i = true ∧ upto c.c σ (runL P B ops (o :: rest) K e)) ∨ (cutB ops i = true ∧ upto c.c σ (opS P B { o with guard := none } (Z { c with rn := false }) e)) ∨
    (c.c = true ∧ ∃ v, QC P B o e σ v ∧ Z c (e.put o.dst v) σ) ∨ (c.rn = true ∧ AnyS P B ops K c.e σ)
def stepX (x : Option Value) (d : Option Tmp) (Z : DC → Fr → St → Prop) (c : DC) (e : Fr) (σ : St) : Prop := ∃ v, x = some v ∧ Z c (e.put d v) σ
def skipX (d : Option Tmp) (Z : DC → Fr → St → Prop) (c : DC) (e : Fr) (σ : St) : Prop := Z c (e.put d undef) σ
def brX (b : Bool) (x y : DC → Fr → St → Prop) (c : DC) (e : Fr) (σ : St) : Prop := (b = true → x c e σ) ∧ (b = false → y c e σ)
def opX (ops : Array Oper) (i : Nat) (o : Oper) (rest : List Oper) (K : Fr → St → Prop) (Z : DC → Fr → St → Prop) (c : DC) (e : Fr) (σ : St) : Prop :=
  match isQ o.op with
  | true => stepX (qv P B o.op (ev e) σ) o.dst Z c e σ
  | false => effD P B ops i o rest K Z c e σ

def runD (ops : Array Oper) : Nat → List Oper → (Fr → St → Prop) → DC → Fr → St → Prop
  | _, [], K, c, e, σ => upto c.c σ (K e)
  | i, o :: rest, K, c, e, σ => brX (gd ops o e) (opX P B ops i o rest K (runD ops (i + 1) rest K)) (skipX o.dst (runD ops (i + 1) rest K)) c e σ

def drawS (ops : Array Oper) (K : Fr → St → Prop) (e : Fr) (σ : St) : Prop := runD P B ops 0 ops.toList K ⟨hasCall ops.toList, true, e⟩ e σ
end

def CL (c : Bool) (σ : St) (m : Nat) : Prop := match c with | true => σ.n ≤ m | false => m = σ.n

theorem upto_at {c : Bool} {σ : St} {X : St → Prop} (h : upto c σ X) {m : Nat} (hm : CL c σ m) : X (σ.up m) := by
  cases c with
  | true => exact h m hm
  | false => simp only [CL] at hm; subst hm; exact h

section
variable {P : Program} {B : World}

/-- An operation yields 'v', whatever order is drawn. -/
def Yield (P : Program) (B : World) (c : Bool) (σ : St) (o : Oper) (ρ : Operand → Value) (v : Value) : Prop :=
  ∀ m w, CL c σ m → Rel B w (σ.up m) → NextR P B ((execOp ρ o).run P w) fun v' σ' => v' = v ∧ ∃ m', CL c σ m' ∧ σ' = σ.up m'

theorem rds_up (σ : St) (m : Nat) (a : Addr) : ∀ (n i : Nat), rds B (σ.up m) a i n = rds B σ a i n
  | 0, _ => rfl
  | n + 1, i => by simp only [rds, rd_up, rds_up σ m a n (i + 1)]

theorem qv_up (p : Op) (ρ : Operand → Value) (σ : St) (m : Nat) : qv P B p ρ (σ.up m) = qv P B p ρ σ := by
  cases p <;> first | rfl | skip
  simp only [qv, ldv, rds_up, rd_up]

theorem Yield.of_q {c : Bool} {σ : St} {o : Oper} {ρ : Operand → Value} {v : Value} (h : qv P B o.op ρ σ = some v) : Yield P B c σ o ρ v := by
  intro m w hm hw
  rw [run_qv hw (by rw [qv_up]; exact h) o rfl]
  exact ⟨_, hw, rfl, m, hm, rfl⟩

theorem Yield.of_call {σ : St} {o : Oper} {e : Fr} {v : Value} (h : QC P B o e σ v) : Yield P B true σ o (ev e) v := by
  intro m w hm hw
  obtain ⟨f, as, ts, ho, hc⟩ := h
  have h1 := opK_call (P := P) (B := B) (ts := ts) (ty := o.type) (hc m hm) w hw
  have : execOp (ev e) { dst := none, op := .call ⟨.value f, as, ts⟩, type := o.type, pos := "", after := #[], guard := none } = execOp (ev e) o := by
    rw [← ho]; exact execOp_same _ o
  rw [this] at h1
  revert h1
  generalize (execOp (ev e) o).run P w = r
  intro h1
  have mono : ∀ {K K' : Value → St → Prop}, (∀ v σ', K v σ' → K' v σ') → NextR P B r K → NextR P B r K' := by
    intro K K' hk hh
    unfold NextR at hh ⊢
    split at hh <;> first | contradiction | skip
    · obtain ⟨s, a, b⟩ := hh; exact ⟨s, a, hk _ _ b⟩
    · obtain ⟨s, a, b⟩ := hh; exact ⟨s, a, hk _ _ b⟩
    · exact hh.mono fun _ _ ⟨v, s, a, b, d⟩ => ⟨v, s, a, b, hk _ _ d⟩
    · exact RoundIn.mono hh fun _ _ ⟨v, s, a, b, d⟩ => ⟨v, s, a, b, hk _ _ d⟩
  exact mono (fun v' σ' ⟨e1, m', hm', e2⟩ => ⟨e1, m', Nat.le_trans hm hm', e2⟩) h1

theorem countP_upd {p p' : Nat → Bool} {i : Nat} (hp : p i = true) (hp' : p' i = false) (he : ∀ j, j ≠ i → p' j = p j) :
    ∀ k, (k ≤ i → (List.range k).countP p' = (List.range k).countP p) ∧ (i < k → (List.range k).countP p' + 1 = (List.range k).countP p)
  | 0 => ⟨fun _ => rfl, fun h => by omega⟩
  | k + 1 => by
    have ih := countP_upd hp hp' he k
    rw [List.range_succ, List.countP_append, List.countP_append, List.countP_singleton, List.countP_singleton]
    refine ⟨fun h => ?_, fun h => ?_⟩
    · rw [ih.1 (by omega), he k (by omega)]
    · by_cases hk : k = i
      · subst hk; rw [ih.1 (Nat.le_refl _), hp, hp']; simp
      · rw [he k hk]; have := ih.2 (by omega); omega

/-! ### What 'dok' says -/
structure Dok (ops : Array Oper) : Prop where
  plain : ∀ (i : Nat) (o : Oper), ops[i]? = some o → (∀ cs b, o.op ≠ .select cs b) ∧ ∀ c, o.op ≠ .defer c
  ahead : ∀ (i : Nat) (o : Oper), ops[i]? = some o → ∀ e ∈ o.after, Region.binds .any e = true → e.on < i
  waits : ∀ (i : Nat) (o : Oper) (j : Nat) (oj : Oper) (t : Tmp), ops[i]? = some o → ops[j]? = some oj → oj.dst = some t → t ∈ o.looksAt ops →
    j = i ∨ (j < i ∧ ∃ e ∈ o.after, Region.binds .any e = true ∧ e.on = j) ∨ (i < j ∧ ∃ e ∈ oj.after, Region.binds .any e = true ∧ e.on = i)
  once : ∀ (i : Nat) (o : Oper) (j : Nat) (oj : Oper) (t : Tmp), ops[i]? = some o → ops[j]? = some oj → oj.dst = some t → o.dst = some t → j = i

theorem dok_spec {ops : Array Oper} (h : dok ops = true) : Dok ops := by
  have hi : ∀ i o, ops[i]? = some o → i < ops.size := fun i o ho => (Array.getElem?_eq_some_iff.1 ho).1
  have key := fun i o (ho : ops[i]? = some o) => by
    have := List.all_eq_true.1 h i (List.mem_range.2 (hi i o ho))
    simp only [ho, Bool.and_eq_true] at this
    exact this
  refine ⟨fun i o ho => ?_, fun i o ho e he hb => ?_, fun i o j oj t ho hoj hd ht => ?_, fun i o j oj t ho hoj hd hd' => ?_⟩
  · have := (key i o ho).1.1
    constructor
    · intro cs b hop; simp [hop] at this
    · intro c hop; simp [hop] at this
  · have := Array.all_eq_true'.1 (key i o ho).1.2 e he
    simpa [hb] using this
  · have := List.all_eq_true.1 (key i o ho).2 j (List.mem_range.2 (hi j oj hoj))
    simp only [hoj, Option.bind_some, hd, Bool.and_eq_true, Bool.or_eq_true, Bool.not_eq_true', decide_eq_true_eq] at this
    rcases this.1 with ((h1 | h1) | h1) | h1
    · rw [List.contains_eq_mem] at h1; simp [ht] at h1
    · exact .inl h1
    · obtain ⟨o', ho', e, he, hb, hon⟩ := Region.waitsFor_spec h1.2
      have : o' = o := by simpa [ho] using ho'.symm
      subst this
      exact .inr (.inl ⟨h1.1, e, he, hb, hon⟩)
    · obtain ⟨o', ho', e, he, hb, hon⟩ := Region.waitsFor_spec h1.2
      have : o' = oj := by simpa [hoj] using ho'.symm
      subst this
      exact .inr (.inr ⟨h1.1, e, he, hb, hon⟩)
  · have := List.all_eq_true.1 (key i o ho).2 j (List.mem_range.2 (hi j oj hoj))
    simp only [hoj, Option.bind_some, hd, Bool.and_eq_true, Bool.or_eq_true, decide_eq_true_eq] at this
    rcases this.2 with h1 | h1
    · exact h1
    · simp [hd'] at h1

/-! ### The values, in the text's order -/
/-- The frame behind so many operations from the i-th on. -/
def envF (ops : Array Oper) (vals : Nat → Value) (e : Fr) (i : Nat) : Nat → Fr
  | 0 => e
  | d + 1 => (envF ops vals e i d).put ((ops[i + d]?).bind (·.dst)) (vals (i + d))

theorem envF_cons (ops : Array Oper) (vals : Nat → Value) (e : Fr) (i : Nat) (v : Value) : ∀ d,
    envF ops vals (e.put ((ops[i]?).bind (·.dst)) v) (i + 1) d = envF ops (fun j => if j = i then v else vals j) e i (d + 1)
  | 0 => by simp [envF]
  | d + 1 => by
    rw [envF, envF_cons ops vals e i v d, envF.eq_2 ops _ e i (d + 1)]
    have h1 : i + 1 + d = i + (d + 1) := by omega
    have h2 : i + (d + 1) ≠ i := by omega
    rw [h1, if_neg h2]

def Spec (P : Program) (B : World) (ops : Array Oper) (c : Bool) (σ : St) (o : Oper) (e : Fr) (v : Value) : Prop :=
  (gd ops o e = true ∧ Yield P B c σ o (ev e) v) ∨ (gd ops o e = false ∧ v = undef)

theorem vals_of_runD {ops : Array Oper} {c : DC} {σ : St} {K : Fr → St → Prop} : ∀ (l : List Oper) (i : Nat) (e : Fr), (∀ j, l[j]? = ops[i + j]?) → runD P B ops i l K c e σ →
    (∃ (d : Nat) (vals : Nat → Value), d ≤ l.length ∧ (∀ j o, j < d → ops[i + j]? = some o → Spec P B ops c.c σ o (envF ops vals e i j) (vals (i + j))) ∧
      ((d = l.length ∧ upto c.c σ (K (envF ops vals e i d))) ∨ (d < l.length ∧ tailB ops (i + d) = true ∧ upto c.c σ (runL P B ops (l.drop d) K (envF ops vals e i d))) ∨
        (∃ o2 rest, l.drop d = o2 :: rest ∧ cutB ops (i + d) = true ∧ gd ops o2 (envF ops vals e i d) = true ∧ upto c.c σ (opS P B { o2 with guard := none } (runD P B ops (i + d + 1) rest K { c with rn := false }) (envF ops vals e i d))))) ∨ (c.rn = true ∧ AnyS P B ops K c.e σ)
  | [], i, e, _, h => .inl ⟨0, fun _ => undef, Nat.le_refl _, fun j _ hj => by omega, .inl ⟨rfl, h⟩⟩
  | o :: l, i, e, hl, h => by
    have h0 : ops[i]? = some o := by simpa using (hl 0).symm
    have hl' : ∀ j, l[j]? = ops[i + 1 + j]? := fun j => by have := hl (j + 1); simpa [Nat.add_assoc, Nat.add_comm 1 j] using this
    have hdst : o.dst = (ops[i]?).bind (·.dst) := by rw [h0]; rfl
    have step : ∀ v, Spec P B ops c.c σ o e v → runD P B ops (i + 1) l K c (e.put o.dst v) σ → (∃ (d : Nat) (vals : Nat → Value), d ≤ (o :: l).length ∧
        (∀ j o', j < d → ops[i + j]? = some o' → Spec P B ops c.c σ o' (envF ops vals e i j) (vals (i + j))) ∧
        ((d = (o :: l).length ∧ upto c.c σ (K (envF ops vals e i d))) ∨ (d < (o :: l).length ∧ tailB ops (i + d) = true ∧ upto c.c σ (runL P B ops ((o :: l).drop d) K (envF ops vals e i d))) ∨
        (∃ o2 rest, (o :: l).drop d = o2 :: rest ∧ cutB ops (i + d) = true ∧ gd ops o2 (envF ops vals e i d) = true ∧ upto c.c σ (opS P B { o2 with guard := none } (runD P B ops (i + d + 1) rest K { c with rn := false }) (envF ops vals e i d))))) ∨ (c.rn = true ∧ AnyS P B ops K c.e σ) := by
      intro v hs hr
      rcases vals_of_runD l (i + 1) _ hl' hr with ⟨d, vals, hd, hsp, hend⟩ | hp
      · rw [hdst] at hend
        refine .inl ⟨d + 1, fun j => if j = i then v else vals j, by simp; omega, fun j o' hj ho' => ?_, ?_⟩
        · cases j with
          | zero =>
            have : o' = o := by simpa [h0] using ho'.symm
            subst this
            simpa [envF] using hs
          | succ j =>
            have h1 : i + (j + 1) = i + 1 + j := by omega
            have := hsp j o' (by omega) (by rw [← h1]; exact ho')
            rw [hdst, envF_cons] at this
            simpa [h1, show i + 1 + j ≠ i by omega] using this
        · rw [← envF_cons]
          have hi : i + (d + 1) = i + 1 + d := by omega
          rw [hi]
          rcases hend with ⟨e1, h1⟩ | ⟨e1, h1, h2⟩ | ⟨o', rest, e1, h1, h2, h3⟩
          · exact .inl ⟨by simp [e1], h1⟩
          · exact .inr (.inl ⟨by simp; omega, h1, by simpa using h2⟩)
          · exact .inr (.inr ⟨o', rest, by simpa using e1, h1, h2, h3⟩)
      · exact .inr hp
    simp only [runD] at h
    cases hg : gd ops o e with
    | false => exact step undef (.inr ⟨hg, rfl⟩) (h.2 hg)
    | true =>
      have h1 := h.1 hg
      unfold opX at h1
      cases hq : isQ o.op with
      | true =>
        rw [hq] at h1
        obtain ⟨v, hv, hr⟩ := h1
        exact step v (.inl ⟨hg, .of_q hv⟩) hr
      | false =>
        rw [hq] at h1
        rcases h1 with ⟨ht, hr⟩ | ⟨ht, hr⟩ | ⟨hc, v, hv, hr⟩ | hp
        · exact .inl ⟨0, fun _ => undef, by omega, fun j _ hj => by omega, .inr (.inl ⟨by simp, by simpa using ht, by simpa [envF] using hr⟩)⟩
        · exact .inl ⟨0, fun _ => undef, by omega, fun j _ hj => by omega, .inr (.inr ⟨o, l, rfl, by simpa using ht, by simpa [envF] using hg, by simpa [envF] using hr⟩)⟩
        · exact step v (.inl ⟨hg, by rw [hc]; exact .of_call hv⟩) hr
        · exact .inr hp

/-! ### Any order -/
/-- The frame when just the operations of 'S' (from 's' on, below 'k') have been carried out. -/
structure IsEnv (ops : Array Oper) (vals : Nat → Value) (e : Fr) (s k : Nat) (S : Nat → Bool) (env : Fr) : Prop where
  on : ∀ (j : Nat) (o : Oper) (t : Tmp), s ≤ j → j < k → S j = true → ops[j]? = some o → o.dst = some t → env.v t = vals j
  off : ∀ t : Tmp, (∀ (j : Nat) (o : Oper), s ≤ j → j < k → S j = true → ops[j]? = some o → o.dst ≠ some t) → env.v t = e.v t
  d : env.d = e.d

theorem IsEnv.congr {ops : Array Oper} {vals : Nat → Value} {e : Fr} {s k : Nat} {S S' : Nat → Bool} {env : Fr} (h : IsEnv ops vals e s k S env) (hs : ∀ j, s ≤ j → j < k → S' j = S j) : IsEnv ops vals e s k S' env :=
  ⟨fun j o t hsj hj hS => h.on j o t hsj hj (by rw [← hs j hsj hj]; exact hS), fun t ht => h.off t fun j o hsj hj hS => ht j o hsj hj (by rw [hs j hsj hj]; exact hS), h.d⟩

theorem IsEnv.unique {ops : Array Oper} {vals : Nat → Value} {e : Fr} {s k : Nat} {S : Nat → Bool} {env env' : Fr} (h : IsEnv ops vals e s k S env) (h' : IsEnv ops vals e s k S env') : env = env' := by
  have hv : env.v = env'.v := by
    funext t
    by_cases hx : ∃ (j : Nat) (o : Oper), s ≤ j ∧ j < k ∧ S j = true ∧ ops[j]? = some o ∧ o.dst = some t
    · obtain ⟨j, o, h0, h1, h2, h3, h4⟩ := hx
      rw [h.on j o t h0 h1 h2 h3 h4, h'.on j o t h0 h1 h2 h3 h4]
    · have hx' : ∀ (j : Nat) (o : Oper), s ≤ j → j < k → S j = true → ops[j]? = some o → o.dst ≠ some t := fun j o h0 h1 h2 h3 h4 => hx ⟨j, o, h0, h1, h2, h3, h4⟩
      rw [h.off t hx', h'.off t hx']
  have hd : env.d = env'.d := h.d.trans h'.d.symm
  cases env; cases env'; simp_all

theorem IsEnv.step {ops : Array Oper} (D : Dok ops) {vals : Nat → Value} {e : Fr} {s k : Nat} {S : Nat → Bool} {env : Fr} {i : Nat} {o : Oper} (h : IsEnv ops vals e s k S env) (hsi : s ≤ i) (hi : i < k) (ho : ops[i]? = some o) :
    IsEnv ops vals e s k (fun j => if j = i then true else S j) (env.put o.dst (vals i)) := by
  refine ⟨fun j oj t hsj hj hS hoj hd => ?_, fun t ht => ?_, by rw [put_d]; exact h.d⟩
  · by_cases hji : j = i
    · subst hji
      have : oj = o := by simpa [ho] using hoj.symm
      subst this
      rw [hd, put_same]
    · simp only [hji, if_false] at hS
      have hne : o.dst ≠ some t := fun hx => hji (D.once i o j oj t ho hoj hd hx)
      have := h.on j oj t hsj hj hS hoj hd
      cases hod : o.dst with
      | none => rw [put_none]; exact this
      | some u =>
        rw [put_ne]; exact this
        rintro rfl; exact hne hod
  · have h1 : o.dst ≠ some t := ht i o hsi hi (by simp) ho
    have h2 := h.off t fun j oj hsj hj hS hoj => ht j oj hsj hj (by simp [hS]) hoj
    cases hod : o.dst with
    | none => rw [put_none]; exact h2
    | some u =>
      rw [put_ne]; exact h2
      rintro rfl; exact h1 hod

theorem envF_isEnv {ops : Array Oper} (D : Dok ops) (vals : Nat → Value) (e : Fr) (s k : Nat) (hk : k ≤ ops.size) : ∀ d, s + d ≤ k → IsEnv ops vals e s k (fun j => decide (j < s + d)) (envF ops vals e s d)
  | 0, _ => ⟨fun j o t hsj hj hS => by simp at hS; omega, fun t _ => rfl, rfl⟩
  | d + 1, hd => by
    have hlt : s + d < ops.size := by omega
    have ho : ops[s + d]? = some ops[s + d] := by simp [hlt]
    have h := (envF_isEnv D vals e s k hk d (by omega)).step D (i := s + d) (by omega) (by omega) ho
    simp only [envF, ho, Option.bind_some]
    refine h.congr fun j hsj hj => ?_
    by_cases hjd : j = s + d
    · subst hjd; simp
    · simp only [hjd, if_false]; congr 1; apply propext; omega

theorem looks_same {ops : Array Oper} (D : Dok ops) {vals : Nat → Value} {e : Fr} {s k : Nat} (hk : k ≤ ops.size) {S : Nat → Bool} {env : Fr} (h : IsEnv ops vals e s k S env) {i : Nat} {o : Oper} (hi : s + i < k) (ho : ops[s + i]? = some o)
    (hS : ∀ x ∈ o.after, Region.binds .any x = true → S x.on = true) (hi0 : S (s + i) = false) (hcl : ∀ (j : Nat) (oj : Oper), ops[j]? = some oj → S j = true → ∀ x ∈ oj.after, Region.binds .any x = true → S x.on = true) :
    ∀ t ∈ o.looksAt ops, env.v t = (envF ops vals e s i).v t := by
  intro t ht
  have hE := envF_isEnv D vals e s k hk i (by omega)
  by_cases hx : ∃ (j : Nat) (oj : Oper), s ≤ j ∧ j < k ∧ ops[j]? = some oj ∧ oj.dst = some t
  · obtain ⟨j, oj, hsj, hj, hoj, hd⟩ := hx
    have off : S j = false → s + i ≤ j → env.v t = (envF ops vals e s i).v t := fun h1 h2 => by
      have e1 := h.off t fun j' oj' _ _ hS' hoj' hd' => by
        have hjj : j = j' := D.once j' oj' j oj t hoj' hoj hd hd'
        rw [← hjj, h1] at hS'
        cases hS'
      have e2 := hE.off t fun j' oj' _ _ hS' hoj' hd' => by
        have hjj : j = j' := D.once j' oj' j oj t hoj' hoj hd hd'
        simp only [decide_eq_true_eq] at hS'
        omega
      rw [e1, e2]
    rcases D.waits (s + i) o j oj t ho hoj hd ht with rfl | ⟨hlt, x, hxm, hb, hon⟩ | ⟨hlt, x, hxm, hb, hon⟩
    · exact off hi0 (Nat.le_refl _)
    · have := hS x hxm hb
      rw [hon] at this
      rw [h.on j oj t hsj hj this hoj hd, hE.on j oj t hsj hj (by simpa using hlt) hoj hd]
    · refine off ?_ (by omega)
      cases hSj : S j with
      | false => rfl
      | true =>
        have := hcl j oj hoj hSj x hxm hb
        rw [hon, hi0] at this; cases this
  · have hx' : ∀ (j : Nat) (oj : Oper), s ≤ j → j < k → ops[j]? = some oj → oj.dst ≠ some t := fun j oj hsj hj hoj hd => hx ⟨j, oj, hsj, hj, hoj, hd⟩
    rw [h.off t fun j oj hsj hj _ hoj => hx' j oj hsj hj hoj, hE.off t fun j oj hsj hj _ hoj => hx' j oj hsj hj hoj]

theorem sink_waits {ops : Array Oper} {k : Nat} (hs : Region.sinkB .any ops k = true) {L : Array Bool} (inv : HeadInv .any ops k L) : ∀ (u i0 : Nat), k - i0 = u → i0 < k → L.getD i0 false = false → k ∉ Region.ready .any ops L := by
  intro u
  induction u using Nat.strongRecOn with
  | _ u ih =>
    intro i0 hu hi0 hl hr
    have h1 := List.all_eq_true.1 hs i0 (List.mem_range.2 hi0)
    obtain ⟨j, hj, h2⟩ := List.any_eq_true.1 h1
    simp only [Bool.and_eq_true, decide_eq_true_eq] at h2
    have hjk := List.mem_range.1 hj
    obtain ⟨oj, hoj, x, hx, hb, hon⟩ := Region.waitsFor_spec h2.2
    by_cases hjk' : j = k
    · subst hjk'
      obtain ⟨_, o', ho', hall⟩ := mem_ready.1 hr
      have : o' = oj := by simpa [hoj] using ho'.symm
      subst this
      have := hall x hx hb
      rw [hon, hl] at this; cases this
    · cases hlj : L.getD j false with
      | true =>
        have := inv.closed j oj hoj hlj x hx hb
        rw [hon, hl] at this; cases this
      | false => exact ih (k - j) (by omega) j rfl (by omega) hlj hr

theorem down_waits {ops : Array Oper} {k : Nat} (hc : cutB ops k = true) {L : Array Bool} (ht : ∀ j, k ≤ j → j < ops.size → L.getD j true = false) {i : Nat} (hik : k < i) : i ∉ Region.ready .any ops L := by
  intro hr
  obtain ⟨_, o, ho, hall⟩ := mem_ready.1 hr
  have hi := (Array.getElem?_eq_some_iff.1 ho).1
  simp only [cutB, Bool.and_eq_true] at hc
  have h1 := List.all_eq_true.1 hc.2 i (List.mem_range.2 hi)
  simp only [Bool.or_eq_true, decide_eq_true_eq] at h1
  rcases h1 with h1 | h1
  · omega
  · obtain ⟨j, hj, h2⟩ := List.any_eq_true.1 h1
    simp only [Bool.and_eq_true, decide_eq_true_eq] at h2
    have hji := List.mem_range.1 hj
    obtain ⟨oj, hoj, x, hx, hb, hon⟩ := Region.waitsFor_spec h2.2
    have : oj = o := by simpa [ho] using hoj.symm
    subst this
    have h3 := hall x hx hb
    have h4 := ht j h2.1 (by omega)
    rw [hon, getD_both h4] at h3; cases h3

theorem exec_same {ops : Array Oper} {o : Oper} {env env' : Fr} (hp : ∀ cs b, o.op ≠ .select cs b) (h : ∀ t ∈ o.looksAt ops, env.v t = env'.v t) : execOp (ev env) o = execOp (ev env') o := by
  refine execOp_congr o hp fun x hx => ?_
  cases x with
  | tmp t => exact h t (List.mem_append_left _ (List.mem_filterMap.2 ⟨.tmp t, by simpa using hx, rfl⟩))
  | _ => rfl

theorem gd_same {ops : Array Oper} {o : Oper} {env env' : Fr} (h : ∀ t ∈ o.looksAt ops, env.v t = env'.v t) : gd ops o env = gd ops o env' := by
  unfold gd
  cases hg : o.guard with
  | none => rfl
  | some g =>
    obtain ⟨j, want⟩ := g
    simp only
    cases hd : (ops[j]?).bind (·.dst) with
    | none => rfl
    | some t =>
      simp only
      rw [h t (by simp [Oper.looksAt, hg, hd])]

theorem Yield.same {c : Bool} {σ : St} {o : Oper} {ρ ρ' : Operand → Value} {v : Value} (h : Yield P B c σ o ρ v) (he : execOp ρ' o = execOp ρ o) : Yield P B c σ o ρ' v := by
  intro m w hm hw
  rw [he]
  exact h m w hm hw

/-- The sequential tail. -/
theorem tail_any {r : Option Nat} {n : Nat} {ops : Array Oper} (D : Dok ops) {k : Nat} (hc : Region.chainB .any ops k = true) {Q : Exit → Act → World → Prop} {K : Fr → St → Prop}
    (hdst : ∀ (i : Nat) (o : Oper), ops[i]? = some o → ∀ t, o.dst = some t → t < n) :
    ∀ (l : List Oper) (t : Nat) (f : Nat) (L : Array Bool) (e : Fr) (σ : St) (a : Act) (w : World), k ≤ t → (∀ j, l[j]? = ops[t + j]?) → L.size = ops.size → t + l.length = ops.size →
      (∀ j, j < t → L.getD j false = true) → (∀ j, t ≤ j → j < ops.size → L.getD j true = false) → l.length ≤ f → Is a n e → Rel B w σ → runL P B ops l K e σ →
      (∀ a' e' σ' w', Is a' n e' → Rel B w' σ' → K e' σ' → Q .normal a' w') → wpAnyIn (FR r) 0 P .any ops Q f L a w
  | [], t, f, L, e, σ, a, w, hkt, hl, hL, hsz, h1, h2, hf, ha, hw, h, hn => by
    have hr : Region.ready .any ops L = [] := by
      apply List.eq_nil_iff_forall_not_mem.2
      intro i hi
      obtain ⟨hu, o, ho, _⟩ := mem_ready.1 hi
      have hlt := (Array.getElem?_eq_some_iff.1 ho).1
      have := h1 i (by simp at hsz; omega)
      rw [getD_both hu] at this
      cases this
    have hQ := hn _ _ _ _ ha hw h
    cases f with
    | zero => exact ⟨hr, hQ⟩
    | succ f => exact ⟨fun _ => hQ, fun i hi => by rw [hr] at hi; cases hi⟩
  | o :: l, t, f, L, e, σ, a, w, hkt, hl, hL, hsz, h1, h2, hf, ha, hw, h, hn => by
    cases f with
    | zero => simp at hf
    | succ f =>
      have ho : ops[t]? = some o := by simpa using (hl 0).symm
      have htlt : t < ops.size := (Array.getElem?_eq_some_iff.1 ho).1
      have htr : t ∈ Region.ready .any ops L := mem_ready.2 ⟨h2 t (Nat.le_refl _) htlt, o, ho, fun x hx hb => h1 _ (D.ahead t o ho x hx hb)⟩
      refine ⟨fun h0 => (by rw [h0] at htr; cases htr), fun i hi => ?_⟩
      obtain ⟨hu, oi, hoi, hall⟩ := mem_ready.1 hi
      have hilt := (Array.getElem?_eq_some_iff.1 hoi).1
      have hit : i = t := by
        rcases Nat.lt_trichotomy i t with hlt | he | hgt
        · have := h1 i hlt; rw [getD_both hu] at this; cases this
        · exact he
        · have hcc := List.all_eq_true.1 hc i (List.mem_range.2 hilt)
          simp only [Bool.or_eq_true, decide_eq_true_eq] at hcc
          rcases hcc with hcc | hcc
          · omega
          · obtain ⟨o', ho', x, hx, hb, hon⟩ := Region.waitsFor_spec hcc
            have : o' = oi := by simpa [hoi] using ho'.symm
            subst this
            have h3 := hall x hx hb
            rw [hon] at h3
            have h4 := h2 (i - 1) (by omega) (by omega)
            rw [getD_both h4] at h3
            cases h3
      subst hit
      have : oi = o := by simpa [ho] using hoi.symm
      subst this
      have hl' : ∀ j, l[j]? = ops[i + 1 + j]? := fun j => by have := hl (j + 1); simpa [Nat.add_assoc, Nat.add_comm 1 j] using this
      simp only [List.length_cons] at hsz hf
      have hnext : ∀ a' e' σ' w', Is a' n e' → Rel B w' σ' → runL P B ops l K e' σ' → wpAnyIn (FR r) 0 P .any ops Q f (L.setIfInBounds i true) a' w' := fun a' e' σ' w' ha' hw' h' =>
        tail_any D hc hdst l (i + 1) f (L.setIfInBounds i true) e' σ' a' w' (by omega) hl' (by simp [hL]) (by omega)
          (fun j hj => by
            by_cases hji : j = i
            · subst hji; simp [hL, htlt]
            · rw [getD_set_ne false (Ne.symm hji)]; exact h1 j (by omega))
          (fun j hj hj' => by rw [getD_set_ne true (by omega)]; exact h2 j (by omega) hj') (by omega) ha' hw' h' hn
      unfold wpOpIn
      simp only [ho, wanted_gd ha]
      cases hg : gd ops oi e with
      | true =>
        simp only [if_true]
        exact opS_wp (.inr (D.plain i oi ho).2) (hdst i oi ho) ha hw (h.1 hg) hnext
      | false =>
        simp only [Bool.false_eq_true, if_false]
        exact ⟨fun _ _ => trivial, hnext _ _ _ _ (ha.put _ _ (hdst i oi ho)) hw (h.2 hg)⟩

theorem pure_run {p : Op} {ρ : Operand → Value} {σ : St} {v : Value} (hp : pureB p = true) (h : qv P B p ρ σ = some v) (o : Oper) (ho : o.op = p) (w : World) : (execOp ρ o).run P w = .ok (.value v) w := by
  refine run_qv (B := w) (Rel.start w) ?_ o ho
  cases p <;> first | exact h | cases hp
theorem pure_about {o : Oper} (hp : pureB o.op = true) (w : World) (ρ : Operand → Value) : o.about P w ρ = none := by
  unfold Oper.about
  cases ho : o.op <;> first | rfl | skip
  rw [ho] at hp; cases hp
theorem pure_q {p : Op} (hp : pureB p = true) : isQ p = true := by cases p <;> first | rfl | cases hp

theorem atS_spec {ops : Array Oper} {X : Fr → St → Prop} {e : Fr} {σ : St} : ∀ (l : List Oper) (i : Nat), atS P B i ops l X e σ → ∃ o, l[i]? = some o ∧ brS (gd ops o e) (opS P B o X) (skipK o.dst X) e σ
  | [], _, h => (by simp [atS] at h)
  | o :: l, 0, h => ⟨o, rfl, h⟩
  | o :: l, i + 1, h => by simpa using atS_spec l i h

/-- What is left of a region from the 's'-th operation on. -/
theorem seg_wp {r : Option Nat} {n : Nat} {ops : Array Oper} (D : Dok ops) {Q : Exit → Act → World → Prop} {K : Fr → St → Prop}
    (hdst : ∀ (i : Nat) (o : Oper), ops[i]? = some o → ∀ t, o.dst = some t → t < n) (hn : ∀ a' e' σ' w', Is a' n e' → Rel B w' σ' → K e' σ' → Q .normal a' w') :
    ∀ (N s : Nat) (l : List Oper) (c : DC) (e : Fr) (σ : St) (a : Act) (w : World) (f : Nat) (L : Array Bool), ops.size - s = N → (∀ j, l[j]? = ops[s + j]?) → s + l.length = ops.size → L.size = ops.size →
      (∀ j, j < s → L.getD j false = true) → (∀ j, s ≤ j → j < ops.size → L.getD j true = false) → ops.size - s ≤ f → Is a n e → Rel B w σ → c.rn = false → runD P B ops s l K c e σ →
      wpAnyIn (FR r) 0 P .any ops Q f L a w := by
  intro N
  induction N using Nat.strongRecOn with
  | _ N IH =>
  intro s l c e σ a w f L hN hl hlen hL hbelow habove hf ha hw hrn h
  rcases vals_of_runD l s e hl h with ⟨d, vals, hd, hsp, hend⟩ | ⟨hr, _⟩
  rotate_left
  · rw [hrn] at hr; cases hr
  generalize hk' : s + d = k at *
  have hk : k ≤ ops.size := by omega
  have hfull := envF_isEnv D vals e s k hk d (by omega)
  have head : ∀ (u f : Nat) (L : Array Bool) (env : Fr) (a : Act) (w : World) (m : Nat), (List.range k).countP (fun j => !L.getD j false) = u → u + (ops.size - k) ≤ f → HeadInv .any ops k L → (∀ j, j < s → L.getD j false = true) →
      IsEnv ops vals e s k (fun j => L.getD j false) env → Is a n env → CL c.c σ m → Rel B w (σ.up m) → wpAnyIn (FR r) 0 P .any ops Q f L a w := by
    intro u
    induction u with
    | zero =>
      intro f L env a w m hu hf inv hlow hI ha hm hw
      have hall : ∀ j, j < k → L.getD j false = true := fun j hj => by
        have := List.countP_eq_zero.1 hu j (List.mem_range.2 hj)
        simpa using this
      have henv : env = envF ops vals e s d := (hI.congr (S' := fun j => decide (j < s + d)) fun j hsj hj => by simp only [hall j hj, hk']; simpa using hj).unique hfull
      subst henv
      rcases hend with ⟨e1, h1⟩ | ⟨e1, h1, h2⟩ | ⟨o, rest, e1, h1, hg, h2⟩
      · have hr : Region.ready .any ops L = [] := by
          apply List.eq_nil_iff_forall_not_mem.2
          intro i hi
          obtain ⟨hu', o, ho, _⟩ := mem_ready.1 hi
          have hlt := (Array.getElem?_eq_some_iff.1 ho).1
          have := hall i (by omega)
          rw [getD_both hu'] at this
          cases this
        have hQ := hn _ _ _ _ ha hw (upto_at h1 hm)
        cases f with
        | zero => exact ⟨hr, hQ⟩
        | succ f => exact ⟨fun _ => hQ, fun i hi => by rw [hr] at hi; cases hi⟩
      · simp only [tailB, Bool.and_eq_true] at h1
        refine tail_any D h1.2 hdst (l.drop d) k f L _ (σ.up m) a w (Nat.le_refl _) (fun j => by rw [List.getElem?_drop, hl]; congr 1; omega) inv.size (by simp; omega) hall (fun j hj hj' => inv.tail j hj hj') (by simp; omega) ha hw (upto_at h2 hm) hn
      · have hdl : d < l.length := by
          rcases Nat.lt_or_ge d l.length with h | h
          · exact h
          · rw [List.drop_eq_nil_of_le h] at e1; cases e1
        have ho : ops[k]? = some o := by
          have h3 : (l.drop d)[0]? = some o := by rw [e1]; rfl
          rw [List.getElem?_drop, hl] at h3
          rw [← h3]; congr 1; omega
        have hks : k < ops.size := by omega
        have hkr : k ∈ Region.ready .any ops L := mem_ready.2 ⟨inv.tail k (Nat.le_refl _) hks, o, ho, fun x hx hb => hall _ (D.ahead k o ho x hx hb)⟩
        cases f with
        | zero => omega
        | succ f =>
          refine ⟨fun h0 => (by rw [h0] at hkr; cases hkr), fun i hi => ?_⟩
          have hik : i = k := by
            rcases Nat.lt_trichotomy i k with hlt | he | hgt
            · have := hall i hlt; rw [getD_both (mem_ready.1 hi).1] at this; cases this
            · exact he
            · exact absurd hi (down_waits h1 (fun j hj hj' => inv.tail j hj hj') hgt)
          subst hik
          unfold wpOpIn
          simp only [ho, wanted_gd ha, hg, if_true]
          have h3 : opS P B o (runD P B ops (i + 1) rest K { c with rn := false }) (envF ops vals e s d) (σ.up m) := upto_at h2 hm
          refine opS_wp (.inr (D.plain i o ho).2) (hdst i o ho) ha hw h3 fun a' e' σ' w' ha' hw' h' => ?_
          have hrest : ∀ j, rest[j]? = ops[i + 1 + j]? := fun j => by
            have h4 : (l.drop d)[j + 1]? = rest[j]? := by rw [e1]; rfl
            rw [List.getElem?_drop, hl] at h4
            rw [← h4]; congr 1; omega
          have hrl : rest.length + 1 = l.length - d := by
            have := congrArg List.length e1
            simpa using this.symm
          refine IH (ops.size - (i + 1)) (by omega) (i + 1) rest { c with rn := false } e' σ' a' w' f (L.setIfInBounds i true) rfl hrest (by omega) (by simp [inv.size]) (fun j hj => ?_) (fun j hj hj' => ?_) (by omega) ha' hw' rfl h'
          · by_cases hji : j = i
            · subst hji
              have : j < L.size := by rw [inv.size]; exact hks
              simp [this]
            · rw [getD_set_ne false (Ne.symm hji)]; exact hall j (by omega)
          · rw [getD_set_ne true (by omega)]; exact inv.tail j (by omega) hj'
    | succ u ih =>
      intro f L env a w m hu hf inv hlow hI ha hm hw
      -- someone of the head is ready
      have hex : ∃ i, i < k ∧ L.getD i false = false := by
        by_cases hx : ∃ i, i < k ∧ L.getD i false = false
        · exact hx
        · exfalso
          have : (List.range k).countP (fun j => !L.getD j false) = 0 := List.countP_eq_zero.2 fun j hj => by
            have hj' := List.mem_range.1 hj
            cases hl : L.getD j false with
            | true => simp
            | false => exact absurd ⟨j, hj', hl⟩ hx
          omega
      have hleast : ∃ i, i < k ∧ L.getD i false = false ∧ ∀ j, j < i → L.getD j false = true := by
        obtain ⟨i, hi, hl⟩ := hex
        induction i using Nat.strongRecOn with
        | _ i ihi =>
          by_cases hx : ∃ j, j < i ∧ L.getD j false = false
          · obtain ⟨j, hj, hlj⟩ := hx; exact ihi j hj (by omega) hlj
          · refine ⟨i, hi, hl, fun j hj => ?_⟩
            cases hlj : L.getD j false with
            | true => rfl
            | false => exact absurd ⟨j, hj, hlj⟩ hx
      obtain ⟨i0, hi0, hl0, hbelow0⟩ := hleast
      have hi0s : i0 < ops.size := by omega
      have hr0 : i0 ∈ Region.ready .any ops L := mem_ready.2 ⟨getD_in (by rw [inv.size]; exact hi0s) hl0, ops[i0], by simp [hi0s], fun x hx hb => hbelow0 _ (D.ahead i0 _ (by simp [hi0s]) x hx hb)⟩
      cases f with
      | zero => omega
      | succ f =>
        refine ⟨fun h0 => (by rw [h0] at hr0; cases hr0), fun i hi => ?_⟩
        obtain ⟨hun, o, ho, hall⟩ := mem_ready.1 hi
        have hilt := (Array.getElem?_eq_some_iff.1 ho).1
        have hik : i < k := by
          rcases Nat.lt_or_ge i k with hlt | hge
          · exact hlt
          · rcases hend with ⟨e1, _⟩ | ⟨e1, h1, _⟩ | ⟨_, _, _, h1, _⟩
            · omega
            · simp only [tailB, Bool.and_eq_true] at h1
              exact absurd hi (tail_waits h1.1 h1.2 (by omega) inv _ i0 rfl hi0 (getD_in (by rw [inv.size]; exact hi0s) hl0) i hge)
            · by_cases hik : i = k
              · subst hik
                have h1' := h1
                simp only [cutB, Bool.and_eq_true] at h1'
                exact absurd hi (sink_waits h1'.1 inv _ i0 rfl hi0 hl0)
              · exact absurd hi (down_waits h1 (fun j hj hj' => inv.tail j hj hj') (by omega))
        have hsi : s ≤ i := by
          rcases Nat.lt_or_ge i s with hlt | hge
          · have := hlow i hlt; rw [getD_both hun] at this; cases this
          · exact hge
        obtain ⟨j, rfl⟩ : ∃ j, i = s + j := ⟨i - s, by omega⟩
        have hlook := looks_same D hk hI hik ho hall (getD_both hun) (fun j oj hoj hSj x hx hb => inv.closed j oj hoj hSj x hx hb)
        have hexec := exec_same (D.plain _ o ho).1 hlook
        have hgd := gd_same hlook
        have hcount : (List.range k).countP (fun j' => !(L.setIfInBounds (s + j) true).getD j' false) = u := by
          have := (countP_upd (p := fun j => !L.getD j false) (p' := fun j' => !(L.setIfInBounds (s + j) true).getD j' false) (i := s + j) (by simp only [getD_both hun]; rfl) (by
            have : s + j < L.size := by rw [inv.size]; exact hilt
            simp [this]) (fun j' hj => by simp only [getD_set_ne false (Ne.symm hj)]) k).2 hik
          omega
        have hnext : ∀ (a' : Act) (w' : World) (m' : Nat), Is a' n (env.put o.dst (vals (s + j))) → CL c.c σ m' → Rel B w' (σ.up m') → wpAnyIn (FR r) 0 P .any ops Q f (L.setIfInBounds (s + j) true) a' w' := fun a' w' m' ha' hm' hw' =>
          ih f (L.setIfInBounds (s + j) true) (env.put o.dst (vals (s + j))) a' w' m' hcount (by omega) (inv.set hi hik)
            (fun j' hj' => by rw [getD_set_ne false (by omega)]; exact hlow j' hj')
            ((hI.step D hsi hik ho).congr fun j' hsj' hj' => by
              by_cases hji : j' = s + j
              · subst hji
                have : s + j < L.size := by rw [inv.size]; exact hilt
                simp [this]
              · simp only [hji, if_false, getD_set_ne false (Ne.symm hji)]) ha' hm' hw'
        have hs := hsp j o (by omega) ho
        unfold wpOpIn
        simp only [ho, wanted_gd ha, hgd]
        rcases hs with ⟨hg, hy⟩ | ⟨hg, hv⟩
        · simp only [hg, if_true]
          refine ⟨fun _ _ => trivial, ?_⟩
          rw [Oper.semAt_eq _ _ _ (D.plain _ o ho).2, ha.eval, hexec]
          refine (hy m w hm hw).upon fun v σ' w' hw' hK => ?_
          obtain ⟨rfl, m', hm', rfl⟩ := hK
          exact hnext _ _ m' (ha.put _ _ (hdst _ o ho)) hm' hw'
        · simp only [hg, Bool.false_eq_true, if_false]
          refine ⟨fun _ _ => trivial, ?_⟩
          have := hnext (a.put o.dst undef) w m (by rw [hv]; exact ha.put _ _ (hdst _ o ho)) hm hw
          exact this
  have inv0 : HeadInv .any ops k L := by
    refine ⟨hL, fun j oj hoj hlj x hx hb => ?_, fun t ht ht' => habove t (by omega) ht'⟩
    have hjs : j < s := by
      rcases Nat.lt_or_ge j s with hlt | hge
      · exact hlt
      · have := habove j hge (Array.getElem?_eq_some_iff.1 hoj).1
        rw [getD_both this] at hlj; cases hlj
    have := D.ahead j oj hoj x hx hb
    exact hbelow _ (by omega)
  have hcnt : (List.range k).countP (fun j => !L.getD j false) = d := by
    have e1 : List.range k = List.range s ++ (List.range d).map (s + ·) := by rw [← hk']; exact List.range_add
    rw [e1, List.countP_append]
    have e2 : (List.range s).countP (fun j => !L.getD j false) = 0 := List.countP_eq_zero.2 fun j hj => by simp [hbelow j (List.mem_range.1 hj)]
    have e3 : ((List.range d).map (s + ·)).countP (fun j => !L.getD j false) = ((List.range d).map (s + ·)).length := List.countP_eq_length.2 fun j hj => by
      obtain ⟨i, hi, rfl⟩ := List.mem_map.1 hj
      have := List.mem_range.1 hi
      rw [getD_both (habove (s + i) (by omega) (by omega))]; rfl
    rw [e2, e3]; simp
  refine head d f L e a w σ.n hcnt (by omega) inv0 hbelow ?_ ha (by cases c.c <;> simp [CL]) (by rw [St.up_self]; exact hw)
  exact ⟨fun j o t hsj hj hS => (by rw [getD_both (habove j hsj (by omega))] at hS; cases hS), fun t _ => rfl, rfl⟩

theorem runD_rn {ops : Array Oper} {K : Fr → St → Prop} : ∀ (l : List Oper) (i : Nat) (c : DC) (e : Fr) (σ : St), runD P B ops i l K c e σ → runD P B ops i l K { c with rn := false } e σ ∨ (c.rn = true ∧ AnyS P B ops K c.e σ)
  | [], i, c, e, σ, h => .inl h
  | o :: l, i, c, e, σ, h => by
    simp only [runD] at h ⊢
    cases hg : gd ops o e with
    | false =>
      have h1 := h.2 hg
      rcases runD_rn l (i + 1) c _ σ h1 with h2 | h2
      · exact .inl ⟨fun hx => (by cases hx), fun _ => h2⟩
      · exact .inr h2
    | true =>
      have h1 := h.1 hg
      unfold opX at h1 ⊢
      cases hq : isQ o.op with
      | true =>
        rw [hq] at h1
        obtain ⟨v, hv, hr⟩ := h1
        rcases runD_rn l (i + 1) c _ σ hr with h2 | h2
        · exact .inl ⟨fun _ => ⟨v, hv, h2⟩, fun hx => (by cases hx)⟩
        · exact .inr h2
      | false =>
        rw [hq] at h1
        rcases h1 with ⟨ht, hr⟩ | ⟨ht, hr⟩ | ⟨hc, v, hv, hr⟩ | hp
        · exact .inl ⟨fun _ => .inl ⟨ht, hr⟩, fun hx => (by cases hx)⟩
        · exact .inl ⟨fun _ => .inr (.inl ⟨ht, hr⟩), fun hx => (by cases hx)⟩
        · rcases runD_rn l (i + 1) c _ σ hr with h2 | h2
          · exact .inl ⟨fun _ => .inr (.inr (.inl ⟨hc, v, hv, h2⟩)), fun hx => (by cases hx)⟩
          · exact .inr h2
        · exact .inr hp

/-- **A REGION THAT DRAWS ITS ORDER.** -/
theorem draw_wp {r : Option Nat} {n : Nat} {id : Nat} {ops : Array Oper} (hm : P.follows .mixedOrders = true) (hD : dok ops = true) {Q : Exit → Act → World → Prop} {K : Fr → St → Prop}
    (hdst : ∀ (i : Nat) (o : Oper), ops[i]? = some o → ∀ t, o.dst = some t → t < n) {e : Fr} {σ : St} {a : Act} {w : World} (ha : Is a n e) (hw : Rel B w σ) (h : drawS P B ops K e σ)
    (hn : ∀ a' e' σ' w', Is a' n e' → Rel B w' σ' → K e' σ' → Q .normal a' w') : (Code.region id ops true).wpIn (FR r) 0 P Q a w := by
  have D := dok_spec hD
  rcases runD_rn _ _ _ _ _ h with h | ⟨hr, h⟩
  · refine wpIn_region_any hm ?_
    exact seg_wp D hdst hn ops.size 0 ops.toList _ e σ a _ ops.size (Array.replicate ops.size false) rfl (fun j => by simp) (by simp) (by simp) (fun j hj => by omega)
      (fun j _ hj => getD_in (by simpa using hj) (getD_replicate_false _ _)) (by omega) ha (hw.drawn _) rfl h
  · exact h r n id Q a w hm hD hdst ha hw hn
end
end Go.Proofs.YtdbgeahmhfocaaaGreat

/- A function's body by the view of memory: code, loops, rounds of ranges over functions, returns. -/
namespace Go.Proofs.YtdbgeahmhfocaaaGreat
set_option linter.unusedSimpArgs false
set_option linter.unusedVariables false
open Go Go.RowKit

def thenQ (next : Fr → St → Prop) (Q : Exit → Fr → St → Prop) : Exit → Fr → St → Prop
  | .normal, e, σ => next e σ
  | x, e, σ => Q x e σ

def blockQ (id : Nat) (Q : Exit → Fr → St → Prop) : Exit → Fr → St → Prop
  | .exit j, e, σ => if j = id then Q .normal e σ else Q (.exit j) e σ
  | x, e, σ => Q x e σ

def noGotoQ (Q : Exit → Fr → St → Prop) : Exit → Fr → St → Prop
  | .goto _, _, _ => False
  | x, e, σ => Q x e σ

theorem thenQ_normal (next : Fr → St → Prop) (Q : Exit → Fr → St → Prop) (e : Fr) (σ : St) : thenQ next Q .normal e σ = next e σ := rfl
theorem thenQ_ret (next : Fr → St → Prop) (Q : Exit → Fr → St → Prop) (e : Fr) (σ : St) : thenQ next Q .ret e σ = Q .ret e σ := rfl
theorem thenQ_exit (next : Fr → St → Prop) (Q : Exit → Fr → St → Prop) (j : Nat) (e : Fr) (σ : St) : thenQ next Q (.exit j) e σ = Q (.exit j) e σ := rfl
theorem blockQ_normal (id : Nat) (Q : Exit → Fr → St → Prop) (e : Fr) (σ : St) : blockQ id Q .normal e σ = Q .normal e σ := rfl
theorem blockQ_ret (id : Nat) (Q : Exit → Fr → St → Prop) (e : Fr) (σ : St) : blockQ id Q .ret e σ = Q .ret e σ := rfl
theorem blockQ_exit (id j : Nat) (Q : Exit → Fr → St → Prop) (e : Fr) (σ : St) : blockQ id Q (.exit j) e σ = if j = id then Q .normal e σ else Q (.exit j) e σ := rfl
theorem noGotoQ_normal (Q : Exit → Fr → St → Prop) (e : Fr) (σ : St) : noGotoQ Q .normal e σ = Q .normal e σ := rfl
theorem noGotoQ_ret (Q : Exit → Fr → St → Prop) (e : Fr) (σ : St) : noGotoQ Q .ret e σ = Q .ret e σ := rfl
theorem noGotoQ_exit (Q : Exit → Fr → St → Prop) (j : Nat) (e : Fr) (σ : St) : noGotoQ Q (.exit j) e σ = Q (.exit j) e σ := rfl

/-- What is looked at once and for all in a body's text: every slot is there; every region that draws is of the kind that one order serves; no 'defer' in a round. -/
def codeOk (rd : Bool) (n : Nat) : Code → Bool
  | .region _ ops draw => (ops.toList.all fun o => (match o.dst with | some t => decide (t < n) | none => true) && (!rd || (match o.op with | .defer _ => false | _ => true))) && (!draw || dok ops)
  | .seq x y => codeOk rd n x && codeOk rd n y
  | .cond _ x y => codeOk rd n x && codeOk rd n y
  | .block _ c => codeOk rd n c
  | .loop c => codeOk rd n c
  | .rangeFunc _ _ x y => codeOk true n x && codeOk true n y
  | .scope c => codeOk rd n c
  | _ => true

section
variable (P : Program) (B : World)

/-- The machine's own statement on a piece of code in a frame of 'n' slots. -/
def CodeR (r : Option Nat) (n : Nat) (c : Code) (Q : Exit → Fr → St → Prop) (e : Fr) (σ : St) : Prop :=
  ∀ a w, Is a n e → Rel B w σ → c.wpIn (FR r) 0 P (fun x a' w' => ∃ e' σ', Is a' n e' ∧ Rel B w' σ' ∧ Q x e' σ') a w

def LoopS (r : Option Nat) (n : Nat) (c : Code) (Q : Exit → Fr → St → Prop) (e : Fr) (σ : St) : Prop :=
  P.follows .mixedOrders = true → codeOk r.isSome n c = true → CodeR P B r n (.loop c) Q e σ

/-- The record of a range over a function, between two rounds. -/
def recR (fn : FuncId) (tm : Array Value) (ps : Array Tmp) (x y : Code) (db : Nat) : Loop := { state := .ready, pending := none, fn, tmps := tm, params := ps, assign := x, body := y, defers := db }

/-- The jump that a round has left is taken up where the loop stood. -/
def pendQ (Q : Exit → Fr → St → Prop) (p : Option Code) (e : Fr) (σ : St) : Prop :=
  match p with
  | none => Q .normal e σ
  | some .ret => Q .ret e σ
  | some (.exit id) => Q (.exit id) e σ
  | _ => False

/-- A call of a function value that is no 'yield'. -/
def FnF (g : Value) (args : Array Value) (σ : St) (K : Value → St → Prop) : Prop :=
  match g with
  | .func (.func f) first cap => Fn P B f (first ++ args ++ cap) σ K
  | _ => False

def RangeS (r : Option Nat) (n : Nat) (g : Operand) (ps : Array Tmp) (x y : Code) (Q : Exit → Fr → St → Prop) (e : Fr) (σ : St) : Prop :=
  match r with
  | none => ∀ (fn : FuncId) (tm : Array Value), tm.size = n → (∀ t, tm.getD t undef = e.v t) →
      FnF P B (ev e g) #[.func (.yield (σ.n + 1)) #[] #[]] ((σ.new (.deferred (some []))).new (.loop (recR fn tm ps x y σ.n))) fun _ σ' =>
        ∃ rec, σ'.m (σ.n + 1) = some (.raw (.loop rec)) ∧ rec.state ≠ .busy ∧
          pendQ Q rec.pending { e with d := { target := .collected σ.n, args := #[] } :: e.d } (σ'.set (σ.n + 1) (.raw (.loop { rec with state := .exhausted })))
  | some l0 => ∃ rec0, σ.m l0 = some (.raw (.loop rec0)) ∧ ∀ (fn : FuncId) (tm : Array Value), tm.size = n → (∀ t, tm.getD t undef = e.v t) →
      FnF P B (ev e g) #[.func (.yield σ.n) #[] #[]] (σ.new (.loop (recR fn tm ps x y rec0.defers))) fun _ σ' =>
        ∃ rec, σ'.m σ.n = some (.raw (.loop rec)) ∧ rec.state ≠ .busy ∧ pendQ Q rec.pending e (σ'.set σ.n (.raw (.loop { rec with state := .exhausted })))

def wpS (r : Option Nat) (n : Nat) : Code → (Exit → Fr → St → Prop) → Fr → St → Prop
  | .skip, Q, e, σ => Q .normal e σ
  | .label _, Q, e, σ => Q .normal e σ
  | .region _ ops false, Q, e, σ => runL P B ops ops.toList (Q .normal) e σ
  | .region _ ops true, Q, e, σ => drawS P B ops (Q .normal) e σ
  | .seq x y, Q, e, σ => wpS r n x (thenQ (wpS r n y Q) Q) e σ
  | .cond c x y, Q, e, σ => brV (ev e c) (wpS r n x Q) (wpS r n y Q) e σ
  | .block id c, Q, e, σ => wpS r n c (blockQ id Q) e σ
  | .exit id, Q, e, σ => Q (.exit id) e σ
  | .goto l, Q, e, σ => Q (.goto l) e σ
  | .ret, Q, e, σ => Q .ret e σ
  | .loop c, Q, e, σ => LoopS P B r n c Q e σ
  | .rangeFunc g ps x y, Q, e, σ => RangeS P B r n g ps x y Q e σ
  | .scope c, Q, e, σ => match r with | none => wpS r n c (noGotoQ Q) e σ | some _ => False
  | .refuse _, _, _, _ => False

/-- A deferred call, made while its function returns. -/
def DFn (f : FuncId) (args : Array Value) (σ : St) (K : St → Prop) : Prop :=
  (∃ fn, P.funcs[f]? = some fn ∧ (fn.name == "runtime.NumGoroutine") = false ∧ fn.body.isSome = true) ∧
    ∀ w, Rel B w σ → CallsDIn Fence.wide 0 P f args .returning w fun e u' w' => (∃ v, e = .returned v) ∧ u' = .returning ∧ ∃ σ', Rel B w' σ' ∧ K σ'

/-- What is asked of what a function has deferred. -/
def Leave : List Deferred → St → (St → Prop) → Prop
  | [], σ, K => K σ
  | d :: ds, σ, K =>
    match d.target with
    | .collected r => σ.m r = some (.raw (.deferred (some []))) ∧ Leave ds (σ.set r (.raw (.deferred none))) K
    | .fn (.func f) cap => DFn P B f (d.args ++ cap) σ fun σ' => Leave ds σ' K
    | _ => False

def resL (σ : St) (e : Fr) : List ResultVar → Option (List Value)
  | [] => some []
  | .tmp t :: rs => (resL σ e rs).map fun l => e.v t :: l
  | .cell a t :: rs => match e.v a with | .pointer (some ad) => (ldv P B σ t ad).bind fun v => (resL σ e rs).map fun l => v :: l | _ => none

def tup : List Value → Value
  | [v] => v
  | vs => .tuple vs.toArray

def retQ (rs : Array ResultVar) (K : Value → St → Prop) : Exit → Fr → St → Prop
  | .normal, e, σ => Leave P B e.d σ fun σ' => bindK (resL P B σ' e rs.toList) fun vs => K (tup vs) σ'
  | .ret, e, σ => Leave P B e.d σ fun σ' => bindK (resL P B σ' e rs.toList) fun vs => K (tup vs) σ'
  | _, _, _ => False

/-- A round's end. -/
def roundQ (l : Nat) (K : Value → St → Prop) : Exit → Fr → St → Prop
  | .normal, _, σ => ∃ rec, σ.m l = some (.raw (.loop rec)) ∧ K (.bool true) (σ.set l (.raw (.loop { rec with state := .ready, pending := none })))
  | .ret, _, σ => ∃ rec, σ.m l = some (.raw (.loop rec)) ∧ K (.bool false) (σ.set l (.raw (.loop { rec with state := .done, pending := some .ret })))
  | .exit id, _, σ => ∃ rec, σ.m l = some (.raw (.loop rec)) ∧ K (.bool false) (σ.set l (.raw (.loop { rec with state := .done, pending := some (.exit id) })))
  | _, _, _ => False
end

def fr0 (args : Array Value) : Fr := ⟨fun t => args.getD t undef, []⟩

section
variable {P : Program} {B : World}

theorem run_getLoop {w : World} {l : Nat} {r : Loop} (h : w.heap[l]? = some (.loop r)) : (Instr.getLoop l).run P w = .ok r w := by
  unfold Instr.getLoop
  simp only [Sem.run_bind, getObj, Sem.run, h, Result.andThen_ok]
  rfl

theorem run_setObj {w : World} {l : Nat} {r : Loop} (o : Obj) (h : w.heap[l]? = some (.loop r)) : (setObj l o).run P w = .ok () { w with heap := w.heap.setIfInBounds l o } := by
  simp only [setObj, Sem.run, h]

theorem FnF.inv {a : Act} {n : Nat} {e : Fr} (ha : Is a n e) {g : Operand} {l : Nat} {σ : St} {K : Value → St → Prop} {w : World} (hf : FnF P B (ev e g) #[.func (.yield l) #[] #[]] σ K) (hr : Rel B w σ) :
    ∃ d f args, (resolve a.eval (rangeCall g l) 0).run P w = .ok d w ∧ (invoke d.target d.args).run P w = .ok (.enter f args) w ∧ Calls P f args w (retP B K) := by
  obtain ⟨f, first, cap, hg, hf'⟩ : ∃ f first cap, ev e g = .func (.func f) first cap ∧ Fn P B f (first ++ #[.func (.yield l) #[] #[]] ++ cap) σ K := by
    revert hf
    cases ev e g with
    | func fn first cap => cases fn <;> intro hf <;> first | exact hf.elim | exact ⟨_, _, _, rfl, hf⟩
    | _ => exact fun hf => hf.elim
  have h1 : a.eval g = .func (.func f) first cap := by rw [ha.eval]; exact hg
  have h2 : (resolve a.eval (rangeCall g l) 0).run P w = .ok { target := .fn (.func f) cap, args := first ++ #[.func (.yield l) #[] #[]] } w := by
    simp only [resolve, rangeCall, List.map_toArray, List.map_cons, List.map_nil, h1, Deferred.ofValue, Sem.run_pure]
    rfl
  have h3 := run_callFunc_en (args := first ++ #[.func (.yield l) #[] #[]] ++ cap) (w := w) hf'.1
  exact ⟨_, f, _, h2, h3, hf'.2 w hr⟩

theorem range_post {r : Option Nat} {n : Nat} {l : Nat} {Q : Exit → Fr → St → Prop} {e : Fr} {a : Act} (ha : Is a n e) {en : Ending} {w : World}
    (h : retP B (fun _ σ' => ∃ rec, σ'.m l = some (.raw (.loop rec)) ∧ rec.state ≠ .busy ∧ pendQ Q rec.pending e (σ'.set l (.raw (.loop { rec with state := .exhausted })))) en w) :
    rangePost (FR r) 0 P l (fun x a' w' => ∃ e' σ', Is a' n e' ∧ Rel B w' σ' ∧ Q x e' σ') a en w := by
  obtain ⟨v, σ', rfl, hr, rec, hm, hb, hp⟩ := h
  have hl := hr.raw hm
  have hend : (Instr.endLoop l).run P w = .ok rec.pending { w with heap := w.heap.setIfInBounds l (.loop { rec with state := .exhausted }) } := by
    have hb' : (rec.state == .busy) = false := by simpa using hb
    simp only [Instr.endLoop, Sem.run_bind, run_getLoop hl, Result.andThen_ok, hb', Bool.false_eq_true, if_false, run_setObj _ hl, Sem.run_pure]
  have hr' := hr.upd hm (.loop { rec with state := .exhausted })
  generalize ({ w with heap := w.heap.setIfInBounds l (.loop { rec with state := .exhausted }) } : World) = W at hend hr'
  generalize σ'.set l (.raw (.loop { rec with state := .exhausted })) = σ'' at hr' hp
  refine ⟨rec.pending, _, hend, ?_⟩
  unfold pendQ at hp
  split at hp <;> first | contradiction | skip
  · rename_i he; rw [he]; exact ⟨e, _, ha, hr', hp⟩
  · rename_i he; rw [he]; exact wpIn_ret ⟨e, _, ha, hr', hp⟩
  · rename_i id he; rw [he]; exact wpIn_exit ⟨e, _, ha, hr', hp⟩

theorem range_wp {r : Option Nat} {n : Nat} {g : Operand} {ps : Array Tmp} {x y : Code} {Q : Exit → Fr → St → Prop} {e : Fr} {σ : St} (h : RangeS P B r n g ps x y Q e σ) : CodeR P B r n (.rangeFunc g ps x y) Q e σ := by
  intro a w ha hw
  refine wpIn_rangeFunc fun fn _ => ?_
  unfold RangeS at h
  cases r with
  | none =>
    have h1 := h fn a.tmps ha.size ha.v
    have hr1 := (hw.new (.deferred (some []))).new (.loop (recR fn a.tmps ps x y σ.n))
    obtain ⟨d, f, args, hres, hinv, hcall⟩ := FnF.inv ha h1 hr1
    refine ⟨σ.n + 1, [{ target := .collected σ.n, args := #[] }], _, d, _, f, args, _, ?_, hres, fun _ _ => trivial, hinv, fun h => by simp [FR, Fence.wide] at h, ?_⟩
    · simp [Instr.enterLoop, FR, Fence.wide, hw.size, recR]
      rfl
    · have ha' : Is { a with defers := [{ target := .collected σ.n, args := #[] }] ++ a.defers } n { e with d := { target := .collected σ.n, args := #[] } :: e.d } := ⟨ha.size, ha.v, by simp [ha.d]⟩
      exact callsIn_FR (hcall.mono fun en w' he => range_post (r := none) ha' he)
  | some l0 =>
    obtain ⟨rec0, hm0, h⟩ := h
    have h1 := h fn a.tmps ha.size ha.v
    have hr1 := hw.new (.loop (recR fn a.tmps ps x y rec0.defers))
    obtain ⟨d, f, args, hres, hinv, hcall⟩ := FnF.inv ha h1 hr1
    refine ⟨σ.n, [], _, d, _, f, args, _, ?_, hres, fun _ _ => trivial, hinv, fun h => by simp [FR, Fence.wide] at h, ?_⟩
    · simp [Instr.enterLoop, FR, Fence.wide, hw.size, recR, run_getLoop (hw.raw hm0)]
    · exact callsIn_FR (hcall.mono fun en w' he => range_post (r := some l0) (a := { a with defers := [] ++ a.defers }) ⟨ha.size, ha.v, by simp [ha.d]⟩ he)

theorem CodeR.mono {r : Option Nat} {n : Nat} {c : Code} {Q Q' : Exit → Fr → St → Prop} {e : Fr} {σ : St} (h : CodeR P B r n c Q e σ) (hq : ∀ x e σ, Q x e σ → Q' x e σ) : CodeR P B r n c Q' e σ :=
  fun a w ha hw => wpIn_mono (h a w ha hw) fun _ _ _ ⟨e', σ', h1, h2, h3⟩ => ⟨e', σ', h1, h2, hq _ _ _ h3⟩

theorem codeOk_region {rd : Bool} {n id : Nat} {ops : Array Oper} {draw : Bool} (h : codeOk rd n (.region id ops draw) = true) :
    (∀ o ∈ ops.toList, ∀ i, o.dst = some i → i < n) ∧ (rd = false ∨ ∀ o ∈ ops.toList, ∀ c, o.op ≠ .defer c) ∧ (draw = true → dok ops = true) := by
  simp only [codeOk, Bool.and_eq_true, List.all_eq_true, Bool.or_eq_true, Bool.not_eq_true'] at h
  refine ⟨fun o ho i hi => ?_, ?_, fun hd => ?_⟩
  · have := (h.1 o ho).1; rw [hi] at this; simpa using this
  · cases rd with
    | false => exact .inl rfl
    | true =>
      refine .inr fun o ho c hc => ?_
      have := (h.1 o ho).2
      simp [hc] at this
  · rcases h.2 with h1 | h1
    · rw [hd] at h1; cases h1
    · exact h1

/-- **THE WALK OF A PIECE OF CODE IS THE MACHINE's OWN.** -/
theorem wpS_sound (hmix : P.follows .mixedOrders = true) {r : Option Nat} {n : Nat} : ∀ (c : Code) (Q : Exit → Fr → St → Prop) (e : Fr) (σ : St), codeOk r.isSome n c = true → wpS P B r n c Q e σ → CodeR P B r n c Q e σ := by
  intro c
  induction c with
  | skip => exact fun Q e σ _ h a w ha hw => wpIn_skip ⟨e, σ, ha, hw, h⟩
  | label l => exact fun Q e σ _ h a w ha hw => wpIn_label ⟨e, σ, ha, hw, h⟩
  | exit id => exact fun Q e σ _ h a w ha hw => wpIn_exit ⟨e, σ, ha, hw, h⟩
  | goto l => exact fun Q e σ _ h a w ha hw => wpIn_goto ⟨e, σ, ha, hw, h⟩
  | ret => exact fun Q e σ _ h a w ha hw => wpIn_ret ⟨e, σ, ha, hw, h⟩
  | refuse why => exact fun Q e σ _ h => h.elim
  | region id ops draw =>
    intro Q e σ hok h a w ha hw
    obtain ⟨hdst, hdef, hdok⟩ := codeOk_region hok
    cases draw with
    | false =>
      refine wpIn_region ?_
      have hdef' : r = none ∨ ∀ o ∈ ops.toList, ∀ c, o.op ≠ .defer c := hdef.imp (fun h => by cases r <;> simp_all) fun h => h
      have := runL_wp (r := r) (ops := ops) (Q := fun x a' w' => ∃ e' σ', Is a' n e' ∧ Rel B w' σ' ∧ Q x e' σ') ops.toList 0 e σ a w (by simp) hdef' hdst ha hw h fun a' e' σ' w' ha' hw' hq => ⟨e', σ', ha', hw', hq⟩
      simpa using this
    | true =>
      refine draw_wp hmix (hdok rfl) (fun i o ho t ht => hdst o ?_ t ht) ha hw h fun a' e' σ' w' ha' hw' hq => ⟨e', σ', ha', hw', hq⟩
      have := Array.mem_of_getElem? ho
      simpa using this
  | seq x y ihx ihy =>
    intro Q e σ hok h a w ha hw
    simp only [codeOk, Bool.and_eq_true] at hok
    refine wpIn_seq (wpIn_mono (ihx _ e σ hok.1 h a w ha hw) ?_)
    rintro ex a' w' ⟨e', σ', ha', hw', hq⟩
    cases ex with
    | normal => exact ihy Q e' σ' hok.2 hq a' w' ha' hw'
    | _ => exact ⟨e', σ', ha', hw', hq⟩
  | cond c x y ihx ihy =>
    intro Q e σ hok h a w ha hw
    simp only [codeOk, Bool.and_eq_true] at hok
    simp only [wpS, brV] at h
    split at h <;> first | contradiction | skip
    rename_i b hb
    have hb' : a.eval c = .bool b := by rw [ha.eval]; exact hb
    cases b with
    | true => exact wpIn_cond_true hb' (ihx Q e σ hok.1 (h.1 rfl) a w ha hw)
    | false => exact wpIn_cond_false hb' (ihy Q e σ hok.2 (h.2 rfl) a w ha hw)
  | block id c ih =>
    intro Q e σ hok h a w ha hw
    refine wpIn_block (wpIn_mono (ih _ e σ hok h a w ha hw) ?_)
    rintro ex a' w' ⟨e', σ', ha', hw', hq⟩
    cases ex with
    | exit j =>
      simp only [blockQ] at hq
      simp only [Exit.inBlock]
      split <;> rename_i hj
      · rw [if_pos hj] at hq; exact ⟨e', σ', ha', hw', hq⟩
      · rw [if_neg hj] at hq; exact ⟨e', σ', ha', hw', hq⟩
    | _ => exact ⟨e', σ', ha', hw', hq⟩
  | loop c ih => exact fun Q e σ hok h => h hmix hok
  | rangeFunc g ps x y ihx ihy => exact fun Q e σ hok h => range_wp h
  | scope c ih =>
    intro Q e σ hok h a w ha hw
    cases r with
    | some l => exact h.elim
    | none =>
      have h1 := ih _ e σ hok h a w ha hw
      have h2 : c.wp P (Exit.noGoto fun x a' w' => ∃ e' σ', Is a' n e' ∧ Rel B w' σ' ∧ Q x e' σ') a w := by
        refine wpIn_wide.1 (wpIn_mono (F := Fence.wide) (n := 0) h1 ?_)
        rintro ex a' w' ⟨e', σ', ha', hw', hq⟩
        cases ex with
        | goto l => exact hq.elim
        | _ => exact ⟨e', σ', ha', hw', hq⟩
      exact wpIn_wide.2 (wp_scope_straight h2)
end
end Go.Proofs.YtdbgeahmhfocaaaGreat

/- From a body's walk to a function's contract; loops by an invariant; rounds. -/
namespace Go.Proofs.YtdbgeahmhfocaaaGreat
set_option linter.unusedSimpArgs false
set_option linter.unusedVariables false
open Go Go.RowKit

section
variable {P : Program} {B : World}

theorem run_results (fn : Func) {a : Act} {n : Nat} {e : Fr} (ha : Is a n e) {σ : St} {w : World} (hw : Rel B w σ) {vs : List Value} (h : resL P B σ e fn.results.toList = some vs) :
    (results fn a.tmps).run P w = .ok (tup vs) w := by
  have key : ∀ (rs : List ResultVar) (vs : List Value), resL P B σ e rs = some vs →
      (rs.mapM (fun | .tmp t => pure (a.tmps.getD t undef) | .cell x t => do loadVar t (← asAddr (a.tmps.getD x undef)) : ResultVar → Sem Value)).run P w = .ok vs w := by
    intro rs
    induction rs with
    | nil => intro vs h; simp [resL] at h; simp [h]
    | cons r rs ih =>
      intro vs h
      cases r with
      | tmp t =>
        simp only [resL, Option.map_eq_some_iff] at h
        obtain ⟨l, hl, rfl⟩ := h
        have ih' := ih l hl
        simp only [ha.v] at ih'
        simp only [List.mapM_cons, Sem.run_bind, Sem.run_pure, Result.andThen_ok, ha.v, ih']
      | cell x t =>
        simp only [resL] at h
        split at h <;> first | contradiction | skip
        rename_i ad hx
        simp only [Option.bind_eq_some_iff, Option.map_eq_some_iff] at h
        obtain ⟨v, hv, l, hl, rfl⟩ := h
        have ih' := ih l hl
        simp only [ha.v] at ih'
        have has : (asAddr (.pointer (some ad))).run P w = .ok ad w := rfl
        simp only [List.mapM_cons, Sem.run_bind, ha.v, hx, has, Sem.run_pure, Result.andThen_ok, run_ldv hw hv, ih']
  have h1 := key _ _ h
  unfold results
  rw [Array.mapM_eq_mapM_toList]
  simp only [Sem.run_bind, Sem.run_map]
  erw [h1]
  simp only [Result.andThen_ok, Sem.run_pure]
  congr 1
  cases vs with
  | nil => simp [tup]
  | cons v l =>
    cases l with
    | nil => simp [tup]
    | cons v2 l => simp [tup]

theorem run_take {w : World} {r : Nat} (h : w.heap[r]? = some (.deferred (some []))) :
    (Instr.takeDeferred r).run P w = .ok [] { w with heap := w.heap.setIfInBounds r (.deferred none) } := by
  unfold Instr.takeDeferred
  simp only [Sem.run_bind, getObj, Sem.run, h, Result.andThen_ok, setObj, Sem.run_pure]

theorem leave_sound (fn : Func) {tm : Array Value} {K : St → Prop} {R : Ending → World → Prop}
    (hres : ∀ (σ : St) (w : World), Rel B w σ → K σ → ∃ v, (results fn tm).run P w = .ok v w ∧ R (.returned v) w) :
    ∀ (ds : List Deferred) (σ : St) (w : World), Rel B w σ → Leave P B ds σ K → LeavesInM Fence.wide 0 P fn tm R ds .returning w
  | [], σ, w, hw, h => hres σ w hw h
  | d :: ds, σ, w, hw, h => by
    refine ⟨by simp, ?_⟩
    simp only [Leave] at h
    split at h <;> first | contradiction | skip
    · rename_i r hr
      obtain ⟨hm, hl⟩ := h
      exact .inl ⟨r, _, hr, run_take (hw.raw hm), leave_sound fn hres ds _ _ (hw.upd hm _) hl⟩
    · rename_i f cap hf
      refine .inr ⟨fun h => by simp [Fence.wide] at h, .func f, cap, f, d.args ++ cap, hf, ?_, fun _ _ => trivial, ?_⟩
      · rw [hf]; exact run_callFunc_en h.1
      · refine CallsDIn.mono (h.2 w hw) ?_
        rintro e u' w' ⟨⟨v, rfl⟩, rfl, σ', hw', hl⟩
        exact leave_sound fn hres ds _ _ hw' hl

theorem is0 {n : Nat} {args : Array Value} (h : args.size ≤ n) : Is { tmps := args ++ Array.replicate (n - args.size) undef, defers := [] } n (fr0 args) := by
  refine ⟨by simp; omega, fun t => ?_, rfl⟩
  simp only [fr0, Array.getD_eq_getD_getElem?, Array.getElem?_append]
  split
  · rfl
  · rename_i hlt
    have h1 : args[t]? = none := by simp; omega
    rw [h1]
    cases hx : (Array.replicate (n - args.size) undef)[t - args.size]? with
    | none => rfl
    | some x => rw [Array.getElem?_replicate] at hx; split at hx <;> simp_all

/-- What must be known of a function's text. -/
structure FnIs (P : Program) (f : FuncId) (n : Nat) (c : Code) (rs : Array ResultVar) : Prop where
  mix : P.follows .mixedOrders = true
  is : ∃ fn, P.funcs[f]? = some fn ∧ fn.body = some c ∧ fn.ntmps = n ∧ fn.results = rs ∧ (fn.name == "runtime.NumGoroutine") = false
  ok : codeOk false n c = true

theorem FnIs.en {f : FuncId} {n : Nat} {c : Code} {rs : Array ResultVar} (h : FnIs P f n c rs) : ∃ fn, P.funcs[f]? = some fn ∧ (fn.name == "runtime.NumGoroutine") = false ∧ fn.body.isSome = true := by
  obtain ⟨fn, h1, h2, _, _, h5⟩ := h.is
  exact ⟨fn, h1, h5, by rw [h2]; rfl⟩

/-- **A FUNCTION's CONTRACT, FROM ITS BODY.** -/
theorem Fn.of {f : FuncId} {n : Nat} {c : Code} {rs : Array ResultVar} (hf : FnIs P f n c rs) {args : Array Value} (hsz : args.size ≤ n) {σ : St} {K : Value → St → Prop}
    (h : σ.wf B → wpS P B none n c (retQ P B rs K) (fr0 args) σ) : Fn P B f args σ K := by
  refine ⟨hf.en, fun w hw => ?_⟩
  obtain ⟨fn, h1, h2, h3, h4, h5⟩ := hf.is
  refine (callsIn_wide (n := 0)).1 (callsIn_of_wp_marks h1 h2 trivial ?_)
  rw [h3]
  have hs := wpS_sound (r := none) hf.mix c _ (fr0 args) σ hf.ok (h hw.wf) _ w (is0 hsz) hw
  refine wpIn_mono hs ?_
  rintro ex a' w' ⟨e', σ', ha', hw', hq⟩
  have fin : Leave P B e'.d σ' (fun σ' => bindK (resL P B σ' e' rs.toList) fun vs => K (tup vs) σ') → LeavesInM Fence.wide 0 P fn a'.tmps (retP B K) a'.defers .returning w' := by
    intro hl
    rw [ha'.d]
    refine leave_sound fn (K := fun σ' => bindK (resL P B σ' e' rs.toList) fun vs => K (tup vs) σ') (fun σ2 w2 hw2 hk => ?_) e'.d σ' w' hw' hl
    obtain ⟨vs, hvs, hK⟩ := hk
    rw [← h4] at hvs
    exact ⟨_, run_results fn ha' hw2 hvs, _, σ2, rfl, hw2, hK⟩
  cases ex with
  | normal => exact fin hq
  | ret => exact fin hq
  | _ => exact hq.elim

/-- A deferred function's contract, from its body. -/
theorem DFn.of {f : FuncId} {n : Nat} {c : Code} {rs : Array ResultVar} (hf : FnIs P f n c rs) {args : Array Value} (hsz : args.size ≤ n) {σ : St} {K : St → Prop}
    (h : σ.wf B → wpS P B none n c (fun x e σ' => (x = .normal ∨ x = .ret) ∧ e.d = [] ∧ (∃ vs, resL P B σ' e rs.toList = some vs) ∧ K σ') (fr0 args) σ) : DFn P B f args σ K := by
  refine ⟨hf.en, fun w hw => ?_⟩
  obtain ⟨fn, h1, h2, h3, h4, h5⟩ := hf.is
  have hs := wpS_sound (r := none) hf.mix c _ (fr0 args) σ hf.ok (h hw.wf) _ w (is0 hsz) hw
  refine CallsDIn.mono (callsDIn_of_wp (u := .returning) (R := fun e w' => (∃ v, e = .returned v) ∧ ∃ σ', Rel B w' σ' ∧ K σ') h1 h2 trivial ?_) ?_
  · rw [h3]
    refine wpIn_mono hs ?_
    rintro ex a' w' ⟨e', σ', ha', hw', hx, hd, ⟨vs, hvs⟩, hK⟩
    rw [← h4] at hvs
    have := run_results fn ha' hw' hvs
    rcases hx with rfl | rfl <;> exact ⟨by rw [ha'.d, hd], _, this, ⟨_, rfl⟩, σ', hw', hK⟩
  · rintro e u' w' ⟨rfl, h1, h2⟩
    exact ⟨h1, rfl, h2⟩

theorem least {p : Nat → Prop} (h : ∃ m, p m) : ∃ m, p m ∧ ∀ m', p m' → m ≤ m' := by
  obtain ⟨m, hm⟩ := h
  induction m using Nat.strongRecOn with
  | _ m ih =>
    by_cases hx : ∃ m', m' < m ∧ p m'
    · obtain ⟨m', hlt, hp⟩ := hx; exact ih m' hlt hp
    · refine ⟨m, hm, fun m' hp => ?_⟩
      rcases Nat.lt_or_ge m' m with hlt | hge
      · exact absurd ⟨m', hlt, hp⟩ hx
      · exact hge

open Classical in
noncomputable def leastOf (p : Nat → Prop) : Nat := if h : ∃ m, p m then Classical.choose (least h) else 0

theorem leastOf_spec {p : Nat → Prop} (h : ∃ m, p m) : p (leastOf p) ∧ ∀ m', p m' → leastOf p ≤ m' := by
  unfold leastOf
  rw [dif_pos h]
  exact Classical.choose_spec (least h)

/-- **A LOOP**, by what holds at each round's head; a number goes down. -/
theorem loop_rule {r : Option Nat} {n : Nat} {c : Code} {Q : Exit → Fr → St → Prop} {e : Fr} {σ : St} (I : Nat → Fr → St → Prop) (m : Nat) (h0 : I m e σ)
    (hr : ∀ m e σ, σ.wf B → I m e σ → wpS P B r n c (thenQ (fun e' σ' => ∃ m', m' < m ∧ I m' e' σ') Q) e σ) : LoopS P B r n c Q e σ := by
  intro hmix hok a w ha hw
  refine wpIn_loop (F := FR r) (n := 0) (fun a w => ∃ m e σ, Is a n e ∧ Rel B w σ ∧ I m e σ) (fun a w => leastOf fun m => ∃ e σ, Is a n e ∧ Rel B w σ ∧ I m e σ) ⟨m, e, σ, ha, hw, h0⟩ ?_
  clear h0 ha hw m a w e σ
  intro a w hex
  obtain ⟨⟨e, σ, ha, hw, hI⟩, _⟩ := leastOf_spec (p := fun m => ∃ e σ, Is a n e ∧ Rel B w σ ∧ I m e σ) hex
  have hb := wpS_sound hmix c _ e σ hok (hr _ e σ hw.wf hI) a w ha hw
  refine wpIn_mono hb ?_
  rintro ex a' w' ⟨e', σ', ha', hw', hq⟩
  cases ex with
  | normal =>
    obtain ⟨m', hlt, hI'⟩ := hq
    refine ⟨⟨m', e', σ', ha', hw', hI'⟩, Nat.lt_of_le_of_lt ?_ hlt⟩
    exact (leastOf_spec (p := fun m => ∃ e σ, Is a' n e ∧ Rel B w' σ ∧ I m e σ) ⟨m', e', σ', ha', hw', hI'⟩).2 m' ⟨e', σ', ha', hw', hI'⟩
  | _ => exact ⟨e', σ', ha', hw', hq⟩

/-! ### Rounds -/
/-- The frame in which a round begins: the slots as the loop's record bears them, the loop's variables assigned. -/
def frR (tm : Array Value) (ps : Array Tmp) (args : Array Value) : Fr := ⟨fun t => ((ps.zip args).foldl (fun tmps (t, a) => tmps.setIfInBounds t a) tm).getD t undef, []⟩

theorem foldl_size (l : List (Tmp × Value)) : ∀ (tm : Array Value), (l.foldl (fun tmps (x : Tmp × Value) => tmps.setIfInBounds x.1 x.2) tm).size = tm.size := by
  induction l with
  | nil => intro tm; rfl
  | cons x l ih => intro tm; simp only [List.foldl_cons]; rw [ih]; simp

/-- **WHAT A CALL OF 'yield' COMES TO**: the loop's variables are assigned; the record says that a round is on; the body. -/
theorem Rd.of (hmix : P.follows .mixedOrders = true) {l n : Nat} {args : Array Value} {σ : St} {K : Value → St → Prop} {rec : Loop} (hm : σ.m l = some (.raw (.loop rec))) (hsz : args.size = rec.params.size) (hn : rec.tmps.size = n)
    (hox : codeOk true n rec.assign = true) (hoy : codeOk true n rec.body = true)
    (h : wpS P B (some l) n rec.assign (fun x e σ1 => x = .normal ∧ ∃ rec1, σ1.m l = some (.raw (.loop rec1)) ∧ rec1.state = .ready ∧
        (wpS P B (some l) n rec.body (roundQ l K) e (σ1.set l (.raw (.loop { rec1 with state := .busy }))))) (frR rec.tmps rec.params args) σ) :
    Rd P B l args σ K := by
  refine ⟨rec, hm, hsz, fun w hw => ?_⟩
  refine roundIn_of_wpIn (F := Fence.wide) trivial ?_
  have hfold : (rec.params.zip args).foldl (fun tmps (t, a) => tmps.setIfInBounds t a) rec.tmps = ((rec.params.zip args).toList).foldl (fun tmps (x : Tmp × Value) => tmps.setIfInBounds x.1 x.2) rec.tmps := by
    rw [Array.foldl_toList]
  have his : Is { tmps := (rec.params.zip args).foldl (fun tmps (t, a) => tmps.setIfInBounds t a) rec.tmps, defers := [] } n (frR rec.tmps rec.params args) :=
    ⟨by simp only []; rw [hfold, foldl_size, hn], fun t => rfl, rfl⟩
  have h1 := wpS_sound (r := some l) hmix rec.assign _ _ σ hox h _ w his hw
  refine wpIn_mono (F := FR (some l)) h1 ?_
  rintro ex a1 w1 ⟨e1, σ1, ha1, hw1, rfl, rec1, hm1, hst, hb⟩
  have hl1 := hw1.raw hm1
  have hbr : (Instr.beginRound l).run P w1 = .ok () { w1 with heap := w1.heap.setIfInBounds l (.loop { rec1 with state := .busy }) } := by
    simp only [Instr.beginRound, Sem.run_bind, run_getLoop hl1, Result.andThen_ok, run_setObj _ hl1, hst, Sem.run_pure]
  refine ⟨_, hbr, ?_⟩
  have hw2 := hw1.upd hm1 (.loop { rec1 with state := .busy })
  have h2 := wpS_sound (r := some l) hmix rec.body _ _ _ hoy hb a1 _ ha1 hw2
  refine wpIn_mono (F := FR (some l)) h2 ?_
  rintro ex a2 w2 ⟨e2, σ2, ha2, hw2, hq⟩
  have fin : ∀ (j : Option Code), (∃ rec2, σ2.m l = some (.raw (.loop rec2)) ∧ K (.bool j.isNone) (σ2.set l (.raw (.loop { rec2 with state := if j.isNone then .ready else .done, pending := j })))) →
      ∃ v w', (Instr.endRound l j).run P w2 = .ok v w' ∧ retP B K (.returned v) w' := by
    rintro j ⟨rec2, hm2, hK⟩
    have hl2 := hw2.raw hm2
    refine ⟨_, _, ?_, _, _, rfl, hw2.upd hm2 _, hK⟩
    simp only [Instr.endRound, Sem.run_bind, run_getLoop hl2, Result.andThen_ok, run_setObj _ hl2, Sem.run_pure]
  cases ex with
  | normal => exact fin none hq
  | ret => exact fin (some .ret) hq
  | exit id => exact fin (some (.exit id)) hq
  | _ => exact hq.elim
end
end Go.Proofs.YtdbgeahmhfocaaaGreat

/- The rules by which 'simp' walks a body: each rewrites at its head and leaves what is still to be done alone. -/
namespace Go.Proofs.YtdbgeahmhfocaaaGreat
set_option linter.unusedSimpArgs false
set_option linter.unusedVariables false
open Go Go.RowKit

theorem bytes_loop (bs : ByteArray) : ∀ (k i : Nat) (r : List UInt8), bs.size - i = k → ByteArray.toList.loop bs i r = r.reverse ++ bs.data.toList.drop i := by
  intro k
  induction k with
  | zero =>
    intro i r h
    unfold ByteArray.toList.loop
    have : ¬ i < bs.size := by omega
    rw [if_neg this]
    have : bs.data.toList.length ≤ i := by simp; show bs.size ≤ i; omega
    simp [List.drop_eq_nil_of_le this]
  | succ k ih =>
    intro i r h
    unfold ByteArray.toList.loop
    have hlt : i < bs.size := by omega
    rw [if_pos hlt, ih (i+1) _ (by omega)]
    have hl : i < bs.data.toList.length := by simpa using hlt
    rw [List.drop_eq_getElem_cons hl]
    simp [ByteArray.get!]
    have : bs.data[i]! = bs.data[i]'hlt := by rw [getElem!_pos]
    simpa using this
theorem bytes_toList (bs : ByteArray) : bs.toList = bs.data.toList := by
  unfold ByteArray.toList
  rw [bytes_loop bs _ 0 [] rfl]; simp

def seqV (v : Value) (d : Option Tmp) (K : Fr → St → Prop) (e : Fr) (σ : St) : Prop := K (e.put d v) σ
def vc (v : Value) : Array Value := v.cells
def fl (place : Nat → Option (Nat × Nat)) (cells : Array Value) (l : List (Nat × Value)) : Option (Array Value) := Instr.fill place cells l
/-- A block of one value's cells is new: its address goes into the slot. -/
def newK (σ : St) (v : Value) (t : TypeId) (d : Option Tmp) (K : Fr → St → Prop) (e : Fr) : Prop := K (e.put d (.pointer (some ⟨σ.n, 0, none⟩))) ((σ.set σ.n (.raw (.cells (vc v) t (0, 0)))).up (σ.n + 1))
def newO (z : Option Value) (σ : St) (t : TypeId) (d : Option Tmp) (K : Fr → St → Prop) (e : Fr) : Prop := ∃ v, z = some v ∧ newK σ v t d K e
/-- A call: its contract is wanted. -/
def callK (P : Program) (B : World) (g : Value) (args : Array Value) (d : Option Tmp) (K : Fr → St → Prop) (e : Fr) (σ : St) : Prop := FnV P B g args σ fun v σ' => K (e.put d v) σ'
def mkK (P : Program) (t : TypeId) (l c : Value) (d : Option Tmp) (K : Fr → St → Prop) (e : Fr) (σ : St) : Prop := mkS P t l c σ fun v σ' => K (e.put d v) σ'
def bslK (P : Program) (t : TypeId) (n : Nat) (parts : List (Nat × Value)) (d : Option Tmp) (K : Fr → St → Prop) (e : Fr) (σ : St) : Prop := bsl P t n parts σ fun v σ' => K (e.put d v) σ'
def appK (P : Program) (B : World) (t xt : TypeId) (a x : Value) (d : Option Tmp) (K : Fr → St → Prop) (e : Fr) (σ : St) : Prop := appS P B σ t xt a x fun v σ' => K (e.put d v) σ'
attribute [go_sem] if_true if_false ite_true ite_false decide_true decide_false Bool.not_true Bool.not_false Bool.not_not Bool.true_and Bool.false_and Bool.and_true Bool.and_false Bool.true_or Bool.false_or Bool.or_true Bool.or_false
  Option.map_some Option.map_none Option.bind_some Option.bind_none List.map_cons List.map_nil List.nil_append List.cons_append List.append_nil List.append_toArray Array.empty_append Array.append_empty List.size_toArray List.length_cons List.length_nil
  List.all_cons List.all_nil and_true true_and and_self and_false false_and or_true true_or or_false false_or not_true_eq_false not_false_eq_true ne_eq eq_self Option.isNone_none Option.isNone_some Option.isSome_none Option.isSome_some
  List.setIfInBounds_toArray List.set_cons_zero List.set_cons_succ List.getElem?_toArray List.getElem?_cons_zero List.getElem?_cons_succ List.toList_toArray Array.size_setIfInBounds
  beq_self_eq_true bne_self_eq_false Nat.zero_add Nat.add_zero Int.toNat_zero reduceCtorEq Option.some_beq_some
attribute [go_sem] bindK_some bindK_none ev_tmp ev_const ev_global ev_func put_none put_same put_ne put_d
  thenQ_normal thenQ_ret thenQ_exit blockQ_normal blockQ_ret blockQ_exit noGotoQ_normal noGotoQ_ret noGotoQ_exit
attribute [go_sem low] St.set_m_ne St.new_m_ne

section
variable {P : Program} {B : World} {r : Option Nat} {n : Nat} {Q : Exit → Fr → St → Prop} {e : Fr} {σ : St}

@[go_sem ↓] theorem wpS_skip : wpS P B r n .skip Q e σ = Q .normal e σ := rfl
@[go_sem ↓] theorem wpS_label {l : Nat} : wpS P B r n (.label l) Q e σ = Q .normal e σ := rfl
@[go_sem ↓] theorem wpS_region {id : Nat} {l : List Oper} : wpS P B r n (.region id l.toArray false) Q e σ = runL P B l.toArray l (Q .normal) e σ := rfl
@[go_sem ↓] theorem wpS_region_draw {id : Nat} {l : List Oper} : wpS P B r n (.region id l.toArray true) Q e σ = runD P B l.toArray 0 l (Q .normal) ⟨hasCall l, true, e⟩ e σ := rfl
@[go_sem ↓] theorem wpS_seq {x y : Code} : wpS P B r n (.seq x y) Q e σ = wpS P B r n x (thenQ (wpS P B r n y Q) Q) e σ := rfl
@[go_sem ↓] theorem wpS_cond {c : Operand} {x y : Code} : wpS P B r n (.cond c x y) Q e σ = brV (ev e c) (wpS P B r n x Q) (wpS P B r n y Q) e σ := rfl
@[go_sem ↓] theorem wpS_block {id : Nat} {c : Code} : wpS P B r n (.block id c) Q e σ = wpS P B r n c (blockQ id Q) e σ := rfl
@[go_sem ↓] theorem wpS_exit {id : Nat} : wpS P B r n (.exit id) Q e σ = Q (.exit id) e σ := rfl
@[go_sem ↓] theorem wpS_ret : wpS P B r n .ret Q e σ = Q .ret e σ := rfl
@[go_sem ↓] theorem wpS_loop {c : Code} : wpS P B r n (.loop c) Q e σ = LoopS P B r n c Q e σ := rfl
@[go_sem ↓] theorem wpS_range {g : Operand} {ps : Array Tmp} {x y : Code} : wpS P B r n (.rangeFunc g ps x y) Q e σ = RangeS P B r n g ps x y Q e σ := rfl
@[go_sem ↓] theorem wpS_scope {c : Code} : wpS P B none n (.scope c) Q e σ = wpS P B none n c (noGotoQ Q) e σ := rfl

variable {x y : Fr → St → Prop} {X Y : DC → Fr → St → Prop} {c : DC} {K : Fr → St → Prop} {d : Option Tmp}
@[go_sem] theorem brS_true : brS true x y e σ = x e σ := by simp [brS]
@[go_sem] theorem brS_false : brS false x y e σ = y e σ := by simp [brS]
@[go_sem] theorem brS_not {b : Bool} : brS (!b) x y e σ = brS b y x e σ := by cases b <;> simp [brS]
@[go_sem] theorem brV_bool {b : Bool} : brV (.bool b) x y e σ = brS b x y e σ := rfl
@[go_sem] theorem brX_true : brX true X Y c e σ = X c e σ := by simp [brX]
@[go_sem] theorem brX_false : brX false X Y c e σ = Y c e σ := by simp [brX]
/-- A branch that arithmetic decides. -/
@[go_sem] theorem brS_dec_true {q : Prop} [Decidable q] (h : q) : brS (decide q) x y e σ = x e σ := by simp [brS, h]
@[go_sem] theorem brS_dec_false {q : Prop} [Decidable q] (h : ¬ q) : brS (decide q) x y e σ = y e σ := by simp [brS, h]
/-- A branch that is not decided yet. -/
theorem brS_dec {q : Prop} [Decidable q] (h : q → x e σ) (h' : ¬ q → y e σ) : brS (decide q) x y e σ := ⟨fun e => h (of_decide_eq_true e), fun e => h' (of_decide_eq_false e)⟩
theorem brS_bool {b : Bool} (h : b = true → x e σ) (h' : b = false → y e σ) : brS b x y e σ := ⟨h, h'⟩
theorem brX_dec {q : Prop} [Decidable q] (h : q → X c e σ) (h' : ¬ q → Y c e σ) : brX (decide q) X Y c e σ := ⟨fun e => h (of_decide_eq_true e), fun e => h' (of_decide_eq_false e)⟩
theorem brX_bool {b : Bool} (h : b = true → X c e σ) (h' : b = false → Y c e σ) : brX b X Y c e σ := ⟨h, h'⟩
@[go_sem] theorem stepQ_some {v : Value} : stepQ (some v) d K e σ = K (e.put d v) σ := by simp [stepQ]
@[go_sem] theorem stepX_some {v : Value} : stepX (some v) d X c e σ = X c (e.put d v) σ := by simp [stepX]
@[go_sem] theorem stepS_some {σ' : St} : stepS (some σ') d K e = K (e.put d undef) σ' := by simp [stepS]
@[go_sem] theorem stepD_some {y : Deferred} : stepD (some y) d K e σ = K (({ e with d := y :: e.d } : Fr).put d undef) σ := by simp [stepD]
@[go_sem] theorem skipK_eq : skipK d K e σ = K (e.put d undef) σ := rfl
@[go_sem] theorem skipX_eq : skipX d X c e σ = X c (e.put d undef) σ := rfl
@[go_sem] theorem newO_some {v : Value} {t : TypeId} : newO (some v) σ t d K e = newK σ v t d K e := by simp [newO]
@[go_sem] theorem newK_eq {v : Value} {t : TypeId} : newK σ v t d K e = K (e.put d (.pointer (some ⟨σ.n, 0, none⟩))) ((σ.set σ.n (.raw (.cells (vc v) t (0, 0)))).up (σ.n + 1)) := rfl
theorem iteP {α : Type} {q : Prop} [Decidable q] {a b : α} (h : q) : (if q then a else b) = a := if_pos h
theorem iteN {α : Type} {q : Prop} [Decidable q] {a b : α} (h : ¬ q) : (if q then a else b) = b := if_neg h
attribute [go_sem] iteP iteN
theorem stepQ_if_pos {q : Prop} [Decidable q] {a b : Option Value} (h : q) : stepQ (if q then a else b) d K e σ = stepQ a d K e σ := by rw [if_pos h]
theorem stepQ_if_neg {q : Prop} [Decidable q] {a b : Option Value} (h : ¬ q) : stepQ (if q then a else b) d K e σ = stepQ b d K e σ := by rw [if_neg h]
theorem stepX_if_pos {q : Prop} [Decidable q] {a b : Option Value} (h : q) : stepX (if q then a else b) d X c e σ = stepX a d X c e σ := by rw [if_pos h]
theorem stepX_if_neg {q : Prop} [Decidable q] {a b : Option Value} (h : ¬ q) : stepX (if q then a else b) d X c e σ = stepX b d X c e σ := by rw [if_neg h]
theorem stepS_if_pos {q : Prop} [Decidable q] {a b : Option St} (h : q) : stepS (if q then a else b) d K e = stepS a d K e := by rw [if_pos h]
attribute [go_sem] stepQ_if_pos stepQ_if_neg stepX_if_pos stepX_if_neg stepS_if_pos

/-- A condition that arithmetic decides. -/
theorem bindK_if_pos {α : Type} {q : Prop} [Decidable q] {x y : Option α} {K : α → Prop} (h : q) : bindK (if q then x else y) K = bindK x K := by rw [if_pos h]
theorem bindK_if_neg {α : Type} {q : Prop} [Decidable q] {x y : Option α} {K : α → Prop} (h : ¬ q) : bindK (if q then x else y) K = bindK y K := by rw [if_neg h]
attribute [go_sem] bindK_if_pos bindK_if_neg

/-! ### Lists of operations -/
variable {ops : Array Oper} {rest : List Oper} {p : Op} {ty : TypeId} {pos : String} {af : Array Edge}

@[go_sem ↓] theorem runL_nil : runL P B ops [] K e σ = K e σ := rfl
@[go_sem ↓] theorem runL_none : runL P B ops (⟨d, p, ty, pos, af, none⟩ :: rest) K e σ = opS P B ⟨d, p, ty, pos, af, none⟩ (runL P B ops rest K) e σ := by
  show brS true _ _ _ _ = _
  rw [brS_true]
@[go_sem ↓] theorem runL_some {g : Nat × Bool} : runL P B ops (⟨d, p, ty, pos, af, some g⟩ :: rest) K e σ =
    brS (gd ops ⟨d, p, ty, pos, af, some g⟩ e) (opS P B ⟨d, p, ty, pos, af, none⟩ (runL P B ops rest K)) (skipK d (runL P B ops rest K)) e σ := rfl

/-- The slot that the j-th operation writes. -/
def slotOf : List Oper → Nat → Option Tmp
  | [], _ => none
  | o :: _, 0 => o.dst
  | _ :: l, j + 1 => slotOf l j
theorem slotOf_eq : ∀ (l : List Oper) (j : Nat), slotOf l j = (l[j]?).bind (·.dst)
  | [], j => by simp [slotOf]
  | o :: l, 0 => by simp [slotOf]
  | o :: l, j + 1 => by simp [slotOf, slotOf_eq l j]
@[go_sem ↓] theorem slotOf_zero {g : Option (Nat × Bool)} : slotOf (⟨d, p, ty, pos, af, g⟩ :: rest) 0 = d := rfl
@[go_sem ↓] theorem slotOf_succ {o : Oper} {j : Nat} : slotOf (o :: rest) (j + 1) = slotOf rest j := rfl
def gdV (s : Option Tmp) (want : Bool) (e : Fr) : Bool := match s with | some t => boolOf (e.v t) == some want | none => false
@[go_sem ↓] theorem gd_some {l : List Oper} {j : Nat} {want : Bool} : gd l.toArray ⟨d, p, ty, pos, af, some (j, want)⟩ e = gdV (slotOf l j) want e := by
  simp only [gd, slotOf_eq, List.getElem?_toArray, gdV] <;> rfl
@[go_sem] theorem gdV_some {t : Tmp} {want : Bool} : gdV (some t) want e = (boolOf (e.v t) == some want) := rfl
@[go_sem] theorem boolOf_bool {b : Bool} : boolOf (.bool b) = some b := rfl

variable {i : Nat} {rn c0 : Bool} {e0 : Fr}
@[go_sem ↓] theorem runD_nil_false : runD P B ops i [] K ⟨false, rn, e0⟩ e σ = K e σ := rfl
@[go_sem ↓] theorem runD_nil_true : runD P B ops i [] K ⟨true, rn, e0⟩ e σ = ∀ m, σ.n ≤ m → K e (σ.up m) := rfl
@[go_sem ↓] theorem runD_none : runD P B ops i (⟨d, p, ty, pos, af, none⟩ :: rest) K c e σ = opX P B ops i ⟨d, p, ty, pos, af, none⟩ rest K (runD P B ops (i + 1) rest K) c e σ := by
  show brX true _ _ _ _ _ = _
  rw [brX_true]
@[go_sem ↓] theorem runD_some {g : Nat × Bool} : runD P B ops i (⟨d, p, ty, pos, af, some g⟩ :: rest) K c e σ =
    brX (gd ops ⟨d, p, ty, pos, af, some g⟩ e) (opX P B ops i ⟨d, p, ty, pos, af, some g⟩ rest K (runD P B ops (i + 1) rest K)) (skipX d (runD P B ops (i + 1) rest K)) c e σ := rfl
def callOp : Op → Bool
  | .call ⟨.value _, _, _⟩ => true
  | _ => false
@[go_sem ↓] theorem hasCall_nil : hasCall [] = false := rfl
@[go_sem ↓] theorem hasCall_cons {g : Option (Nat × Bool)} : hasCall (⟨d, p, ty, pos, af, g⟩ :: rest) = (callOp p || hasCall rest) := by
  cases p <;> rfl
attribute [go_sem] callOp

/-! ### Operations -/
@[go_sem ↓] theorem opS_move {x : Operand} : opS P B ⟨d, .move x, ty, pos, af, none⟩ K e σ = stepQ (some (ev e x)) d K e σ := rfl
@[go_sem ↓] theorem opX_move {x : Operand} {g : Option (Nat × Bool)} : opX P B ops i ⟨d, .move x, ty, pos, af, g⟩ rest K X c e σ = stepX (some (ev e x)) d X c e σ := rfl
@[go_sem ↓] theorem opS_assign {x : Operand} : opS P B ⟨d, .assign x, ty, pos, af, none⟩ K e σ = stepQ (some (ev e x)) d K e σ := rfl
@[go_sem ↓] theorem opX_assign {x : Operand} {g : Option (Nat × Bool)} : opX P B ops i ⟨d, .assign x, ty, pos, af, g⟩ rest K X c e σ = stepX (some (ev e x)) d X c e σ := rfl
def pickV (c a b : Value) : Option Value := match c with | .bool t => some (if t then a else b) | _ => none
@[go_sem] theorem pickV_bool {t : Bool} {a b : Value} : pickV (.bool t) a b = some (if t then a else b) := rfl
@[go_sem ↓] theorem opS_pick {x a b : Operand} : opS P B ⟨d, .pick x a b, ty, pos, af, none⟩ K e σ = stepQ (pickV (ev e x) (ev e a) (ev e b)) d K e σ := rfl
@[go_sem ↓] theorem opX_pick {x a b : Operand} {g : Option (Nat × Bool)} : opX P B ops i ⟨d, .pick x a b, ty, pos, af, g⟩ rest K X c e σ = stepX (pickV (ev e x) (ev e a) (ev e b)) d X c e σ := rfl
@[go_sem ↓] theorem opS_nilCheck {x : Operand} : opS P B ⟨d, .nilCheck x, ty, pos, af, none⟩ K e σ = stepQ (nck (ev e x)) d K e σ := rfl
@[go_sem ↓] theorem opX_nilCheck {x : Operand} {g : Option (Nat × Bool)} : opX P B ops i ⟨d, .nilCheck x, ty, pos, af, g⟩ rest K X c e σ = stepX (nck (ev e x)) d X c e σ := rfl
@[go_sem ↓] theorem opS_binOp {op : BinOp} {t u : TypeId} {x y : Operand} : opS P B ⟨d, .binOp op t x y u, ty, pos, af, none⟩ K e σ = stepQ (bin P op t (ev e x) (ev e y)) d K e σ := rfl
@[go_sem ↓] theorem opX_binOp {op : BinOp} {t u : TypeId} {x y : Operand} {g : Option (Nat × Bool)} : opX P B ops i ⟨d, .binOp op t x y u, ty, pos, af, g⟩ rest K X c e σ = stepX (bin P op t (ev e x) (ev e y)) d X c e σ := rfl
@[go_sem ↓] theorem opS_unOp {op : UnOp} {t : TypeId} {x : Operand} : opS P B ⟨d, .unOp op t x, ty, pos, af, none⟩ K e σ = stepQ (un op (ev e x)) d K e σ := rfl
@[go_sem ↓] theorem opX_unOp {op : UnOp} {t : TypeId} {x : Operand} {g : Option (Nat × Bool)} : opX P B ops i ⟨d, .unOp op t x, ty, pos, af, g⟩ rest K X c e σ = stepX (un op (ev e x)) d X c e σ := rfl
@[go_sem ↓] theorem opS_convert {s t : TypeId} {x : Operand} : opS P B ⟨d, .convert s t x, ty, pos, af, none⟩ K e σ = stepQ (cv P s t (ev e x)) d K e σ := rfl
@[go_sem ↓] theorem opX_convert {s t : TypeId} {x : Operand} {g : Option (Nat × Bool)} : opX P B ops i ⟨d, .convert s t x, ty, pos, af, g⟩ rest K X c e σ = stepX (cv P s t (ev e x)) d X c e σ := rfl
def fad (x : Value) (o : Option Nat) : Option Value := match x, o with | .pointer (some a), some o => some (.pointer (some (a.add o))) | _, _ => none
@[go_sem] theorem fad_some {b o k : Nat} : fad (.pointer (some ⟨b, o, none⟩)) (some k) = some (.pointer (some ⟨b, o + k, none⟩)) := by simp [fad, add_none]
@[go_sem ↓] theorem opS_fieldAddr {s f : Nat} {x : Operand} : opS P B ⟨d, .fieldAddr s x f, ty, pos, af, none⟩ K e σ = stepQ (fad (ev e x) (fo P s f)) d K e σ := rfl
@[go_sem ↓] theorem opX_fieldAddr {s f : Nat} {x : Operand} {g : Option (Nat × Bool)} : opX P B ops i ⟨d, .fieldAddr s x f, ty, pos, af, g⟩ rest K X c e σ = stepX (fad (ev e x) (fo P s f)) d X c e σ := rfl
@[go_sem ↓] theorem opS_field {t f : Nat} {x : Operand} : opS P B ⟨d, .field t x f, ty, pos, af, none⟩ K e σ = stepQ (fld P t f (ev e x)) d K e σ := rfl
@[go_sem ↓] theorem opX_field {t f : Nat} {x : Operand} {g : Option (Nat × Bool)} : opX P B ops i ⟨d, .field t x f, ty, pos, af, g⟩ rest K X c e σ = stepX (fld P t f (ev e x)) d X c e σ := rfl
@[go_sem ↓] theorem opS_indexAddr {t : Nat} {x y : Operand} : opS P B ⟨d, .indexAddr t x y, ty, pos, af, none⟩ K e σ = stepQ (ixa P t (ev e x) (ev e y)) d K e σ := rfl
@[go_sem ↓] theorem opX_indexAddr {t : Nat} {x y : Operand} {g : Option (Nat × Bool)} : opX P B ops i ⟨d, .indexAddr t x y, ty, pos, af, g⟩ rest K X c e σ = stepX (ixa P t (ev e x) (ev e y)) d X c e σ := rfl
@[go_sem ↓] theorem opS_index {t : Nat} {x y : Operand} : opS P B ⟨d, .index t x y, ty, pos, af, none⟩ K e σ = stepQ (ixv P t (ev e x) (ev e y)) d K e σ := rfl
@[go_sem ↓] theorem opX_index {t : Nat} {x y : Operand} {g : Option (Nat × Bool)} : opX P B ops i ⟨d, .index t x y, ty, pos, af, g⟩ rest K X c e σ = stepX (ixv P t (ev e x) (ev e y)) d X c e σ := rfl
def extV (x : Value) (i : Nat) : Option Value := match x with | .tuple vs => vs[i]? | _ => none
@[go_sem] theorem extV_tuple {vs : Array Value} {i : Nat} : extV (.tuple vs) i = vs[i]? := rfl
@[go_sem ↓] theorem opS_extract {x : Operand} {j : Nat} : opS P B ⟨d, .extract x j, ty, pos, af, none⟩ K e σ = stepQ (extV (ev e x) j) d K e σ := rfl
@[go_sem ↓] theorem opX_extract {x : Operand} {j : Nat} {g : Option (Nat × Bool)} : opX P B ops i ⟨d, .extract x j, ty, pos, af, g⟩ rest K X c e σ = stepX (extV (ev e x) j) d X c e σ := rfl
@[go_sem ↓] theorem opS_slice {t : Nat} {x : Operand} {lo hi mx : Option Operand} : opS P B ⟨d, .slice t x lo hi mx, ty, pos, af, none⟩ K e σ = stepQ (slc P t (ev e x) (lo.map (ev e)) (hi.map (ev e)) (mx.map (ev e))) d K e σ := rfl
@[go_sem ↓] theorem opX_slice {t : Nat} {x : Operand} {lo hi mx : Option Operand} {g : Option (Nat × Bool)} : opX P B ops i ⟨d, .slice t x lo hi mx, ty, pos, af, g⟩ rest K X c e σ = stepX (slc P t (ev e x) (lo.map (ev e)) (hi.map (ev e)) (mx.map (ev e))) d X c e σ := rfl
/-- A load through a pointer. -/
def ldp (P : Program) (B : World) (σ : St) (t : TypeId) (x : Value) : Option Value := match x with | .pointer (some a) => ldv P B σ t a | _ => none
@[go_sem ↓] theorem opS_load {t : Nat} {x : Operand} : opS P B ⟨d, .load t x, ty, pos, af, none⟩ K e σ = stepQ (ldp P B σ t (ev e x)) d K e σ := rfl
@[go_sem ↓] theorem opX_load {t : Nat} {x : Operand} {g : Option (Nat × Bool)} : opX P B ops i ⟨d, .load t x, ty, pos, af, g⟩ rest K X c e σ = stepX (ldp P B σ t (ev e x)) d X c e σ := rfl
@[go_sem ↓] theorem opS_makeFunc {fn : Go.Fn} {first cap : List Operand} : opS P B ⟨d, .makeFunc fn first.toArray cap.toArray, ty, pos, af, none⟩ K e σ = stepQ (some (.func fn (first.map (ev e)).toArray (cap.map (ev e)).toArray)) d K e σ := by
  simp [opS, isQ, qv]
@[go_sem ↓] theorem opX_makeFunc {fn : Go.Fn} {first cap : List Operand} {g : Option (Nat × Bool)} : opX P B ops i ⟨d, .makeFunc fn first.toArray cap.toArray, ty, pos, af, g⟩ rest K X c e σ = stepX (some (.func fn (first.map (ev e)).toArray (cap.map (ev e)).toArray)) d X c e σ := by
  simp [opX, isQ, qv]
@[go_sem ↓] theorem opS_build {t : Nat} {parts : List (Nat × Operand)} : opS P B ⟨d, .build t parts.toArray, ty, pos, af, none⟩ K e σ = stepQ (bld P t (parts.map fun (i, x) => (i, ev e x))) d K e σ := by
  simp [opS, isQ, qv]
@[go_sem ↓] theorem opX_build {t : Nat} {parts : List (Nat × Operand)} {g : Option (Nat × Bool)} : opX P B ops i ⟨d, .build t parts.toArray, ty, pos, af, g⟩ rest K X c e σ = stepX (bld P t (parts.map fun (i, x) => (i, ev e x))) d X c e σ := by
  simp [opX, isQ, qv]
@[go_sem ↓] theorem opS_makeInterface {t : Nat} {x : Operand} : opS P B ⟨d, .makeInterface t x, ty, pos, af, none⟩ K e σ = stepQ (if plainKd (kd P t) then some (.iface t (ev e x)) else none) d K e σ := rfl
@[go_sem ↓] theorem opX_makeInterface {t : Nat} {x : Operand} {g : Option (Nat × Bool)} : opX P B ops i ⟨d, .makeInterface t x, ty, pos, af, g⟩ rest K X c e σ = stepX (if plainKd (kd P t) then some (.iface t (ev e x)) else none) d X c e σ := rfl
@[go_sem ↓] theorem opS_lookup {t : Nat} {x y : Operand} {ok : Bool} : opS P B ⟨d, .lookup t x y ok, ty, pos, af, none⟩ K e σ = stepQ (lk P σ t (ev e x) (ev e y) ok) d K e σ := rfl
@[go_sem ↓] theorem opX_lookup {t : Nat} {x y : Operand} {ok : Bool} {g : Option (Nat × Bool)} : opX P B ops i ⟨d, .lookup t x y ok, ty, pos, af, g⟩ rest K X c e σ = stepX (lk P σ t (ev e x) (ev e y) ok) d X c e σ := rfl
@[go_sem ↓] theorem opS_len {as : List Operand} {ts : List TypeId} : opS P B ⟨d, .call ⟨.builtin .len, as.toArray, ts.toArray⟩, ty, pos, af, none⟩ K e σ = stepQ (bi P σ .len ts.toArray (as.map (ev e))) d K e σ := rfl
@[go_sem ↓] theorem opX_len {as : List Operand} {ts : List TypeId} {g : Option (Nat × Bool)} : opX P B ops i ⟨d, .call ⟨.builtin .len, as.toArray, ts.toArray⟩, ty, pos, af, g⟩ rest K X c e σ = stepX (bi P σ .len ts.toArray (as.map (ev e))) d X c e σ := rfl
@[go_sem ↓] theorem opS_cap {as : List Operand} {ts : List TypeId} : opS P B ⟨d, .call ⟨.builtin .cap, as.toArray, ts.toArray⟩, ty, pos, af, none⟩ K e σ = stepQ (bi P σ .cap ts.toArray (as.map (ev e))) d K e σ := rfl
@[go_sem ↓] theorem opX_cap {as : List Operand} {ts : List TypeId} {g : Option (Nat × Bool)} : opX P B ops i ⟨d, .call ⟨.builtin .cap, as.toArray, ts.toArray⟩, ty, pos, af, g⟩ rest K X c e σ = stepX (bi P σ .cap ts.toArray (as.map (ev e))) d X c e σ := rfl
@[go_sem ↓] theorem opS_max {as : List Operand} {ts : List TypeId} : opS P B ⟨d, .call ⟨.builtin .max, as.toArray, ts.toArray⟩, ty, pos, af, none⟩ K e σ = stepQ (bi P σ .max ts.toArray (as.map (ev e))) d K e σ := rfl
@[go_sem ↓] theorem opX_max {as : List Operand} {ts : List TypeId} {g : Option (Nat × Bool)} : opX P B ops i ⟨d, .call ⟨.builtin .max, as.toArray, ts.toArray⟩, ty, pos, af, g⟩ rest K X c e σ = stepX (bi P σ .max ts.toArray (as.map (ev e))) d X c e σ := rfl
@[go_sem ↓] theorem opS_min {as : List Operand} {ts : List TypeId} : opS P B ⟨d, .call ⟨.builtin .min, as.toArray, ts.toArray⟩, ty, pos, af, none⟩ K e σ = stepQ (bi P σ .min ts.toArray (as.map (ev e))) d K e σ := rfl
@[go_sem ↓] theorem opX_min {as : List Operand} {ts : List TypeId} {g : Option (Nat × Bool)} : opX P B ops i ⟨d, .call ⟨.builtin .min, as.toArray, ts.toArray⟩, ty, pos, af, g⟩ rest K X c e σ = stepX (bi P σ .min ts.toArray (as.map (ev e))) d X c e σ := rfl
@[go_sem ↓] theorem opS_store {t : Nat} {x y : Operand} : opS P B ⟨d, .store t x y, ty, pos, af, none⟩ K e σ = stepS (stv P σ t (ev e x) (ev e y)) d K e := rfl
@[go_sem ↓] theorem opS_alloc {t : Nat} : opS P B ⟨d, .alloc t, ty, pos, af, none⟩ K e σ = newO (zr P t) σ t d K e := rfl
@[go_sem ↓] theorem opS_box {t : Nat} {x : Operand} : opS P B ⟨d, .box t x, ty, pos, af, none⟩ K e σ = newO (some (ev e x)) σ t d K e := by
  rw [newO_some]; rfl
@[go_sem ↓] theorem opS_makeSlice {t : Nat} {x y : Operand} : opS P B ⟨d, .makeSlice t x y, ty, pos, af, none⟩ K e σ = mkK P t (ev e x) (ev e y) d K e σ := rfl
@[go_sem ↓] theorem opS_buildSlice {t k : Nat} {parts : List (Nat × Operand)} : opS P B ⟨d, .buildSlice t k parts.toArray, ty, pos, af, none⟩ K e σ = bslK P t k (parts.map fun (i, x) => (i, ev e x)) d K e σ := by
  simp [opS, isQ, effS, bslK]
@[go_sem ↓] theorem opS_mapUpdate {t : Nat} {x y z : Operand} : opS P B ⟨d, .mapUpdate t x y z, ty, pos, af, none⟩ K e σ = stepS (mus P σ t (ev e x) (ev e y) (ev e z)) d K e := rfl
@[go_sem ↓] theorem opS_makeMap {t : Nat} : opS P B ⟨d, .makeMap t none, ty, pos, af, none⟩ K e σ = K (e.put d (.map (some σ.n))) ((σ.set σ.n (.raw (.map #[] 0))).up (σ.n + 1)) := rfl
@[go_sem ↓] theorem opX_mapUpdate {t : Nat} {x y z : Operand} {g : Option (Nat × Bool)} : opX P B ops i ⟨d, .mapUpdate t x y z, ty, pos, af, g⟩ rest K X c e σ = effD P B ops i ⟨d, .mapUpdate t x y z, ty, pos, af, g⟩ rest K X c e σ := rfl
@[go_sem ↓] theorem opX_makeMap {t : Nat} {g : Option (Nat × Bool)} : opX P B ops i ⟨d, .makeMap t none, ty, pos, af, g⟩ rest K X c e σ = effD P B ops i ⟨d, .makeMap t none, ty, pos, af, g⟩ rest K X c e σ := rfl
@[go_sem ↓] theorem opS_call {f : Operand} {as : List Operand} {ts : Array TypeId} : opS P B ⟨d, .call ⟨.value f, as.toArray, ts⟩, ty, pos, af, none⟩ K e σ = callK P B (ev e f) (as.map (ev e)).toArray d K e σ := by
  simp [opS, isQ, effS, callK]
@[go_sem ↓] theorem opS_append {a x : Operand} {t xt : TypeId} : opS P B ⟨d, .call ⟨.builtin .append, #[a, x], #[t, xt]⟩, ty, pos, af, none⟩ K e σ = appK P B t xt (ev e a) (ev e x) d K e σ := by
  simp [opS, isQ, effS, appK]
@[go_sem ↓] theorem opS_defer {f : Operand} {as : List Operand} {ts : Array TypeId} : opS P B ⟨d, .defer ⟨.value f, as.toArray, ts⟩, ty, pos, af, none⟩ K e σ = stepD (dfr (ev e f) (as.map (ev e)).toArray) d K e σ := by
  simp [opS, isQ]
/-- An effect in a region that draws: nothing is done yet. -/
@[go_sem ↓] theorem opX_store {t : Nat} {x y : Operand} {g : Option (Nat × Bool)} : opX P B ops i ⟨d, .store t x y, ty, pos, af, g⟩ rest K X c e σ = effD P B ops i ⟨d, .store t x y, ty, pos, af, g⟩ rest K X c e σ := rfl
@[go_sem ↓] theorem opX_alloc {t : Nat} {g : Option (Nat × Bool)} : opX P B ops i ⟨d, .alloc t, ty, pos, af, g⟩ rest K X c e σ = effD P B ops i ⟨d, .alloc t, ty, pos, af, g⟩ rest K X c e σ := rfl
@[go_sem ↓] theorem opX_box {t : Nat} {x : Operand} {g : Option (Nat × Bool)} : opX P B ops i ⟨d, .box t x, ty, pos, af, g⟩ rest K X c e σ = effD P B ops i ⟨d, .box t x, ty, pos, af, g⟩ rest K X c e σ := rfl
@[go_sem ↓] theorem opX_makeSlice {t : Nat} {x y : Operand} {g : Option (Nat × Bool)} : opX P B ops i ⟨d, .makeSlice t x y, ty, pos, af, g⟩ rest K X c e σ = effD P B ops i ⟨d, .makeSlice t x y, ty, pos, af, g⟩ rest K X c e σ := rfl
@[go_sem ↓] theorem opX_buildSlice {t k : Nat} {parts : Array (Nat × Operand)} {g : Option (Nat × Bool)} : opX P B ops i ⟨d, .buildSlice t k parts, ty, pos, af, g⟩ rest K X c e σ = effD P B ops i ⟨d, .buildSlice t k parts, ty, pos, af, g⟩ rest K X c e σ := rfl
@[go_sem ↓] theorem opX_call {f : Operand} {as : Array Operand} {ts : Array TypeId} {g : Option (Nat × Bool)} : opX P B ops i ⟨d, .call ⟨.value f, as, ts⟩, ty, pos, af, g⟩ rest K X c e σ = effD P B ops i ⟨d, .call ⟨.value f, as, ts⟩, ty, pos, af, g⟩ rest K X c e σ := rfl
@[go_sem ↓] theorem opX_append {as : Array Operand} {ts : Array TypeId} {g : Option (Nat × Bool)} : opX P B ops i ⟨d, .call ⟨.builtin .append, as, ts⟩, ty, pos, af, g⟩ rest K X c e σ = effD P B ops i ⟨d, .call ⟨.builtin .append, as, ts⟩, ty, pos, af, g⟩ rest K X c e σ := rfl
/-- From here on the order is the text's. -/
theorem effD_tail {o : Oper} (ht : tailB ops i = true) (h : upto c.c σ (runL P B ops (o :: rest) K e)) : effD P B ops i o rest K X c e σ := .inl ⟨ht, h⟩
/-- Here the region is parted. -/
theorem effD_cut {o : Oper} (ht : cutB ops i = true) (h : upto c.c σ (opS P B ⟨o.dst, o.op, o.type, o.pos, o.after, none⟩ (X ⟨c.c, false, c.e⟩) e)) : effD P B ops i o rest K X c e σ := .inr (.inl ⟨ht, h⟩)
/-- A call that leaves all as it was. -/
theorem effD_call {o : Oper} {v : Value} (hq : QC P B o e σ v) (h : X ⟨true, rn, e0⟩ (e.put o.dst v) σ) : effD P B ops i o rest K X ⟨true, rn, e0⟩ e σ := .inr (.inr (.inl ⟨rfl, v, hq, h⟩))
/-- By a rule on any order. -/
theorem effD_any {o : Oper} (h : AnyS P B ops K e0 σ) : effD P B ops i o rest K X ⟨c0, true, e0⟩ e σ := .inr (.inr (.inr ⟨rfl, h⟩))
@[go_sem ↓] theorem atS_succ {o : Oper} {l : List Oper} {i : Nat} : atS P B (i + 1) ops (o :: l) K e σ = atS P B i ops l K e σ := rfl
@[go_sem ↓] theorem atS_none {l : List Oper} : atS P B 0 ops (⟨d, p, ty, pos, af, none⟩ :: l) K e σ = opS P B ⟨d, p, ty, pos, af, none⟩ K e σ := by
  show brS true _ _ _ _ = _
  rw [brS_true]
@[go_sem ↓] theorem atS_some {l : List Oper} {g : Nat × Bool} : atS P B 0 ops (⟨d, p, ty, pos, af, some g⟩ :: l) K e σ = brS (gd ops ⟨d, p, ty, pos, af, some g⟩ e) (opS P B ⟨d, p, ty, pos, af, none⟩ K) (skipK d K) e σ := rfl
@[go_sem] theorem upto_false {Z : St → Prop} : upto false σ Z = Z σ := rfl
@[go_sem] theorem upto_true {Z : St → Prop} : upto true σ Z = ∀ m, σ.n ≤ m → Z (σ.up m) := rfl
attribute [go_sem] dfr

/-! ### Values -/
@[go_sem] theorem nck_ptr {a : Addr} : nck (.pointer (some a)) = some (.pointer (some a)) := rfl
@[go_sem] theorem nck_func {f : FuncId} {x y : Array Value} : nck (.func (.func f) x y) = some (.func (.func f) x y) := rfl
@[go_sem] theorem nck_yield {f : Nat} {x y : Array Value} : nck (.func (.yield f) x y) = some (.func (.yield f) x y) := rfl
@[go_sem] theorem un_not {b : Bool} : un .not (.bool b) = some (.bool !b) := rfl
@[go_sem] theorem un_neg {k : IntKind} {x : Int} : un .neg (.int k x) = some (.int k (k.wrap (0 - x))) := rfl
variable {t : TypeId} {k : IntKind} {a b : Int}
@[go_sem] theorem bin_add : bin P .add t (.int k a) (.int k b) = some (.int k (k.wrap (a + b))) := by simp [bin, ib]
@[go_sem] theorem bin_sub : bin P .sub t (.int k a) (.int k b) = some (.int k (k.wrap (a - b))) := by simp [bin, ib]
@[go_sem] theorem bin_mul : bin P .mul t (.int k a) (.int k b) = some (.int k (k.wrap (a * b))) := by simp [bin, ib]
@[go_sem] theorem bin_quo : bin P .quo t (.int k a) (.int k b) = if b = 0 then none else some (.int k (k.wrap (a.tdiv b))) := by simp [bin, ib]
@[go_sem] theorem bin_rem : bin P .rem t (.int k a) (.int k b) = if b = 0 then none else some (.int k (a.tmod b)) := by simp [bin, ib]
@[go_sem] theorem bin_eql : bin P .eql t (.int k a) (.int k b) = some (.bool (decide (a = b))) := by simp [bin, ib]; rfl
@[go_sem] theorem bin_neq : bin P .neq t (.int k a) (.int k b) = some (.bool (decide (a ≠ b))) := by simp [bin, ib]; by_cases h : a = b <;> simp [h]
@[go_sem] theorem bin_lss : bin P .lss t (.int k a) (.int k b) = some (.bool (decide (a < b))) := by simp [bin, ib]
@[go_sem] theorem bin_leq : bin P .leq t (.int k a) (.int k b) = some (.bool (decide (a ≤ b))) := by simp [bin, ib]
@[go_sem] theorem bin_gtr : bin P .gtr t (.int k a) (.int k b) = some (.bool (decide (b < a))) := by simp [bin, ib]
@[go_sem] theorem bin_geq : bin P .geq t (.int k a) (.int k b) = some (.bool (decide (b ≤ a))) := by simp [bin, ib]
@[go_sem] theorem bin_string {op : BinOp} {x y : ByteArray} : bin P op t (.string x) (.string y) = sb op x y := rfl
@[go_sem] theorem sb_eql {x y : ByteArray} : sb .eql x y = some (.bool (decide (x = y))) := by
  simp only [sb, Option.some.injEq, Value.bool.injEq]
  rw [Bool.eq_iff_iff]; simp only [beq_iff_eq, decide_eq_true_eq]
  constructor
  · intro h; rw [bytes_toList, bytes_toList] at h; cases x; cases y; simp only [ByteArray.mk.injEq]; exact Array.ext' h
  · rintro rfl; rfl
@[go_sem] theorem sb_neq {x y : ByteArray} : sb .neq x y = some (.bool (decide (x ≠ y))) := by
  have h := sb_eql (x := x) (y := y)
  simp only [sb, Option.some.injEq, Value.bool.injEq] at h ⊢
  rw [h]; by_cases e : x = y <;> simp [e]
def eqB (k : Kd) (x y : Value) : Option Value := (eqv k x y).map .bool
def neB (k : Kd) (x y : Value) : Option Value := (eqv k x y).map fun b => .bool !b
@[go_sem] theorem bin_eql_bool {x y : Bool} : bin P .eql t (.bool x) (.bool y) = eqB (kd P t) (.bool x) (.bool y) := rfl
@[go_sem] theorem bin_neq_bool {x y : Bool} : bin P .neq t (.bool x) (.bool y) = neB (kd P t) (.bool x) (.bool y) := rfl
@[go_sem] theorem bin_eql_ptr {x y : Option Addr} : bin P .eql t (.pointer x) (.pointer y) = eqB (kd P t) (.pointer x) (.pointer y) := rfl
@[go_sem] theorem bin_neq_ptr {x y : Option Addr} : bin P .neq t (.pointer x) (.pointer y) = neB (kd P t) (.pointer x) (.pointer y) := rfl
@[go_sem] theorem bin_eql_func {f : Go.Fn} {x y : Array Value} : bin P .eql t (.func f x y) .nilFunc = eqB (kd P t) (.func f x y) .nilFunc := rfl
@[go_sem] theorem bin_neq_func {f : Go.Fn} {x y : Array Value} : bin P .neq t (.func f x y) .nilFunc = neB (kd P t) (.func f x y) .nilFunc := rfl
@[go_sem] theorem bin_eql_nilfunc : bin P .eql t .nilFunc .nilFunc = eqB (kd P t) .nilFunc .nilFunc := rfl
@[go_sem] theorem bin_neq_nilfunc : bin P .neq t .nilFunc .nilFunc = neB (kd P t) .nilFunc .nilFunc := rfl
@[go_sem] theorem bin_eql_slice {x y : Option Addr} {i j i' j' : Nat} : bin P .eql t (.slice x i j) (.slice y i' j') = eqB (kd P t) (.slice x i j) (.slice y i' j') := rfl
@[go_sem] theorem bin_neq_slice {x y : Option Addr} {i j i' j' : Nat} : bin P .neq t (.slice x i j) (.slice y i' j') = neB (kd P t) (.slice x i j) (.slice y i' j') := rfl
@[go_sem] theorem bin_eql_map {x y : Option Nat} : bin P .eql t (.map x) (.map y) = eqB (kd P t) (.map x) (.map y) := rfl
@[go_sem] theorem bin_neq_map {x y : Option Nat} : bin P .neq t (.map x) (.map y) = neB (kd P t) (.map x) (.map y) := rfl
@[go_sem] theorem eqB_bool {x y : Bool} : eqB .bool (.bool x) (.bool y) = some (.bool (x == y)) := rfl
@[go_sem] theorem neB_bool {x y : Bool} : neB .bool (.bool x) (.bool y) = some (.bool (x != y)) := rfl
@[go_sem] theorem eqB_ptr_some {x : Addr} : eqB .pointer (.pointer (some x)) (.pointer none) = some (.bool false) := rfl
@[go_sem] theorem eqB_ptr_none : eqB .pointer (.pointer none) (.pointer none) = some (.bool true) := rfl
@[go_sem] theorem neB_ptr_some {x : Addr} : neB .pointer (.pointer (some x)) (.pointer none) = some (.bool true) := rfl
@[go_sem] theorem neB_ptr_none : neB .pointer (.pointer none) (.pointer none) = some (.bool false) := rfl
@[go_sem] theorem eqB_func {f : Go.Fn} {x y : Array Value} : eqB .func (.func f x y) .nilFunc = some (.bool false) := rfl
@[go_sem] theorem neB_func {f : Go.Fn} {x y : Array Value} : neB .func (.func f x y) .nilFunc = some (.bool true) := rfl
@[go_sem] theorem eqB_nilfunc : eqB .func .nilFunc .nilFunc = some (.bool true) := rfl
@[go_sem] theorem neB_nilfunc : neB .func .nilFunc .nilFunc = some (.bool false) := rfl
@[go_sem] theorem eqB_map_some {x : Nat} : eqB .map (.map (some x)) (.map none) = some (.bool false) := rfl
@[go_sem] theorem eqB_map_none : eqB .map (.map none) (.map none) = some (.bool true) := rfl
@[go_sem] theorem eqB_slice_none {i j i' j' : Nat} {y : Option Addr} : eqB .slice (.slice none i j) (.slice y i' j') = some (.bool y.isNone) := rfl
@[go_sem] theorem eqB_slice_some {i j i' j' : Nat} {y : Addr} : eqB .slice (.slice (some y) i j) (.slice none i' j') = some (.bool false) := rfl
attribute [go_sem] wrap_i64

/-! ### Memory -/
def rdK (B : World) (b o : Nat) : Option HP → Option Value
  | some (.raw (.cells c _ _)) => c[o]?
  | some _ => none
  | none => if b < B.heap.size then B.cell? ⟨b, o, none⟩ else none
theorem rd_eq {b o : Nat} : rd B σ ⟨b, o, none⟩ = rdK B b o (σ.m b) := by
  unfold rd rdK
  cases σ.m b with
  | none => rfl
  | some x =>
    cases x with
    | comp R => rfl
    | raw o => cases o <;> rfl
def nthV : List Value → Nat → Option Value
  | [], _ => none
  | v :: _, 0 => some v
  | _ :: l, j + 1 => nthV l j
theorem nthV_eq : ∀ (l : List Value) (j : Nat), nthV l j = l[j]?
  | [], j => by simp [nthV]
  | v :: l, 0 => by simp [nthV]
  | v :: l, j + 1 => by simp [nthV, nthV_eq l j]
@[go_sem] theorem nthV_zero {v : Value} {l : List Value} : nthV (v :: l) 0 = some v := rfl
@[go_sem] theorem nthV_succ {v : Value} {l : List Value} {j : Nat} : nthV (v :: l) (j + 1) = nthV l j := rfl
@[go_sem] theorem rdK_lit {b o : Nat} {l : List Value} {v : Value} {t : TypeId} {fz : Nat × Nat} : rdK B b o (some (.raw (.cells (v :: l).toArray t fz))) = nthV (v :: l) o := by
  rw [nthV_eq]; simp [rdK]
@[go_sem low] theorem rdK_raw {b o : Nat} {c : Array Value} {t : TypeId} {fz : Nat × Nat} : rdK B b o (some (.raw (.cells c t fz))) = c[o]? := rfl
def ldK (B : World) (σ : St) (b o : Nat) : Option (Bool × Nat) → Option Value
  | some (true, n) => (rds B σ ⟨b, o, none⟩ 0 n).map fun l => .agg l.toArray
  | some (false, _) => rdK B b o (σ.m b)
  | none => none
@[go_sem] theorem ldp_eq {b o : Nat} : ldp P B σ t (.pointer (some ⟨b, o, none⟩)) = ldK B σ b o (tk P t) := by
  unfold ldp ldv ldK
  simp only
  cases tk P t with
  | none => rfl
  | some x => obtain ⟨g, n⟩ := x; cases g <;> simp [rd_eq]
@[go_sem] theorem ldv_eq {b o : Nat} : ldv P B σ t ⟨b, o, none⟩ = ldK B σ b o (tk P t) := ldp_eq
@[go_sem] theorem ldK_one {b o n : Nat} : ldK B σ b o (some (false, n)) = rdK B b o (σ.m b) := rfl
@[go_sem] theorem ldK_agg {b o n : Nat} : ldK B σ b o (some (true, n)) = (rds B σ ⟨b, o, none⟩ 0 n).map fun l => .agg l.toArray := rfl
@[go_sem] theorem rds_zero {a : Addr} {i : Nat} : rds B σ a i 0 = some [] := rfl
@[go_sem] theorem rds_succ {b o i n : Nat} : rds B σ ⟨b, o, none⟩ i (n + 1) = (rdK B b (o + i) (σ.m b)).bind fun v => (rds B σ ⟨b, o, none⟩ (i + 1) n).map fun l => v :: l := by
  simp only [rds, add_none, rd_eq]
@[go_sem] theorem add_mk {b o i : Nat} : (⟨b, o, none⟩ : Addr).add i = ⟨b, o + i, none⟩ := add_none rfl

def wrK (σ : St) (b o : Nat) (vs : List Value) : Option HP → Option St
  | some (.raw (.cells c ty (0, 0))) => if o + vs.length ≤ c.size ∧ vs.all Value.oneCell' = true then some (σ.set b (.raw (.cells (wrl c o vs) ty (0, 0)))) else none
  | _ => none
def stK (σ : St) (b o : Nat) (v : Value) : Option (Bool × Nat) → Option St
  | some (_, n) => if (vc v).size = n then wrK σ b o (vc v).toList (σ.m b) else none
  | none => none
theorem wrs_eq {b o : Nat} {vs : List Value} : wrs σ ⟨b, o, none⟩ vs = wrK σ b o vs (σ.m b) := by
  unfold wrs wrK
  cases σ.m b with
  | none => rfl
  | some x =>
    cases x with
    | comp R => rfl
    | raw o =>
      cases o with
      | cells c ty fz =>
        obtain ⟨i, j⟩ := fz
        cases i <;> cases j <;> simp
      | _ => rfl
@[go_sem] theorem stv_eq {b o : Nat} {v : Value} : stv P σ t (.pointer (some ⟨b, o, none⟩)) v = stK σ b o v (tk P t) := by
  unfold stv stK
  cases tk P t with
  | none => rfl
  | some x => obtain ⟨g, n⟩ := x; simp only [wrs_eq]; rfl
@[go_sem] theorem stK_some {b o n : Nat} {v : Value} {g : Bool} : stK σ b o v (some (g, n)) = if (vc v).size = n then wrK σ b o (vc v).toList (σ.m b) else none := rfl
@[go_sem] theorem wrK_raw {b o : Nat} {vs : List Value} {c : Array Value} {ty : TypeId} : wrK σ b o vs (some (.raw (.cells c ty (0, 0)))) = if o + vs.length ≤ c.size ∧ vs.all Value.oneCell' = true then some (σ.set b (.raw (.cells (wrl c o vs) ty (0, 0)))) else none := rfl
@[go_sem] theorem wrl_nil {c : Array Value} {i : Nat} : wrl c i [] = c := rfl
@[go_sem] theorem wrl_cons {c : Array Value} {i : Nat} {v : Value} {vs : List Value} : wrl c i (v :: vs) = wrl (c.setIfInBounds i v) (i + 1) vs := rfl
@[go_sem] theorem cells_bool {b : Bool} : vc (.bool b) = #[.bool b] := rfl
@[go_sem] theorem cells_int {k : IntKind} {x : Int} : vc (.int k x) = #[.int k x] := rfl
@[go_sem] theorem cells_string {s : ByteArray} : vc (.string s) = #[.string s] := rfl
@[go_sem] theorem cells_pointer {a : Option Addr} : vc (.pointer a) = #[.pointer a] := rfl
@[go_sem] theorem cells_slice {a : Option Addr} {i j : Nat} : vc (.slice a i j) = #[.slice a i j] := rfl
@[go_sem] theorem cells_map {a : Option Nat} : vc (.map a) = #[.map a] := rfl
@[go_sem] theorem cells_func {f : Go.Fn} {x y : Array Value} : vc (.func f x y) = #[.func f x y] := rfl
@[go_sem] theorem cells_nilFunc  : vc (.nilFunc) = #[.nilFunc] := rfl
@[go_sem] theorem cells_iface {t : TypeId} {v : Value} : vc (.iface t v) = #[.iface t v] := rfl
@[go_sem] theorem cells_nilIface  : vc (.nilIface) = #[.nilIface] := rfl
@[go_sem] theorem cells_agg {cs : Array Value} : vc (.agg cs) = cs := rfl
@[go_sem] theorem one_bool {b : Bool} : Value.oneCell' (.bool b) = true := rfl
@[go_sem] theorem one_int {k : IntKind} {x : Int} : Value.oneCell' (.int k x) = true := rfl
@[go_sem] theorem one_string {s : ByteArray} : Value.oneCell' (.string s) = true := rfl
@[go_sem] theorem one_pointer {a : Option Addr} : Value.oneCell' (.pointer a) = true := rfl
@[go_sem] theorem one_slice {a : Option Addr} {i j : Nat} : Value.oneCell' (.slice a i j) = true := rfl
@[go_sem] theorem one_map {a : Option Nat} : Value.oneCell' (.map a) = true := rfl
@[go_sem] theorem one_func {f : Go.Fn} {x y : Array Value} : Value.oneCell' (.func f x y) = true := rfl
@[go_sem] theorem one_nilFunc  : Value.oneCell' (.nilFunc) = true := rfl
@[go_sem] theorem one_iface {t : TypeId} {v : Value} : Value.oneCell' (.iface t v) = true := rfl
@[go_sem] theorem one_nilIface  : Value.oneCell' (.nilIface) = true := rfl
@[go_sem] theorem one_agg {cs : Array Value} : Value.oneCell' (.agg cs) = false := rfl
theorem fill_wrl (off : Nat) : ∀ (l : List Value) (j : Nat) (cells : Array Value), (l.zipIdx j).foldl (fun (cs : Array Value) (x : Value × Nat) => cs.setIfInBounds (off + x.2) x.1) cells = wrl cells (off + j) l
  | [], _, _ => rfl
  | v :: l, j, cells => by simp only [List.zipIdx_cons, List.foldl_cons, wrl]; rw [fill_wrl off l (j + 1)]; rfl
def fillK (place : Nat → Option (Nat × Nat)) (cells : Array Value) (v : Value) (rest : List (Nat × Value)) : Option (Nat × Nat) → Option (Array Value)
  | none => none
  | some (off, size) => if (vc v).size ≠ size ∨ off + (vc v).size > cells.size then none else fl place (wrl cells off (vc v).toList) rest
@[go_sem] theorem fill_nil {place : Nat → Option (Nat × Nat)} {cells : Array Value} : fl place cells [] = some cells := rfl
@[go_sem] theorem fill_cons {place : Nat → Option (Nat × Nat)} {cells : Array Value} {i : Nat} {v : Value} {rest : List (Nat × Value)} : fl place cells ((i, v) :: rest) = fillK place cells v rest (place i) := by
  unfold fl fillK
  rw [Instr.fill.eq_2]
  cases place i with
  | none => rfl
  | some x =>
    obtain ⟨off, size⟩ := x
    have h := fill_wrl off v.cells.toList 0 cells
    have e : v.cells.zipIdx.foldl (fun (cs : Array Value) (x : Value × Nat) => cs.setIfInBounds (off + x.2) x.1) cells = wrl cells off v.cells.toList := by
      rw [Nat.add_zero] at h
      rw [← h, ← Array.foldl_toList]; simp
    show (if (v.cells.size ≠ size || off + v.cells.size > cells.size) = true then none else _) = if v.cells.size ≠ size ∨ off + v.cells.size > cells.size then none else _
    by_cases hc : v.cells.size ≠ size ∨ off + v.cells.size > cells.size
    · rw [if_pos hc, if_pos (by simpa using hc)]
    · rw [if_neg hc, if_neg (by simpa using hc)]
      show Instr.fill place (v.cells.zipIdx.foldl (fun (cs : Array Value) (x : Value × Nat) => cs.setIfInBounds (off + x.2) x.1) cells) rest = _
      rw [e]; rfl
@[go_sem] theorem fillK_some {place : Nat → Option (Nat × Nat)} {cells : Array Value} {v : Value} {rest : List (Nat × Value)} {off size : Nat} :
    fillK place cells v rest (some (off, size)) = if (vc v).size ≠ size ∨ off + (vc v).size > cells.size then none else fl place (wrl cells off (vc v).toList) rest := rfl
def nthP : List (Nat × Nat) → Nat → Option (Nat × Nat)
  | [], _ => none
  | x :: _, 0 => some x
  | _ :: l, j + 1 => nthP l j
theorem nthP_eq : ∀ (l : List (Nat × Nat)), nthP l = fun j => l[j]?
  | [] => by funext j; simp [nthP]
  | x :: l => by
    funext j
    cases j with
    | zero => simp [nthP]
    | succ j => simp [nthP, nthP_eq l]
@[go_sem] theorem nthP_zero {x : Nat × Nat} {l : List (Nat × Nat)} : nthP (x :: l) 0 = some x := rfl
@[go_sem] theorem nthP_succ {x : Nat × Nat} {l : List (Nat × Nat)} {j : Nat} : nthP (x :: l) (j + 1) = nthP l j := rfl
def bldK (parts : List (Nat × Value)) : Option (Array Value × (List (Nat × Nat) ⊕ Nat)) → Option Value
  | some (z, .inl pl) => (fl (nthP pl) z parts).map .agg
  | some (z, .inr s) => (fl (fun i => some (i * s, s)) z parts).map .agg
  | none => none
@[go_sem] theorem bld_eq {parts : List (Nat × Value)} : bld P t parts = bldK parts (bp P t) := by
  unfold bld bldK
  cases bp P t with
  | none => rfl
  | some x => obtain ⟨z, y⟩ := x; cases y <;> simp only [nthP_eq] <;> rfl
@[go_sem] theorem bldK_inl {parts : List (Nat × Value)} {z : Array Value} {pl : List (Nat × Nat)} : bldK parts (some (z, .inl pl)) = (fl (nthP pl) z parts).map .agg := rfl
@[go_sem] theorem bldK_inr {parts : List (Nat × Value)} {z : Array Value} {s : Nat} : bldK parts (some (z, .inr s)) = (fl (fun i => some (i * s, s)) z parts).map .agg := rfl

/-! ### What is left of memory when a function returns -/
theorem To.obj {b : Nat} {X : HP} {τ : St} (hb : τ.m b = some X) (hr : ∀ c x, c ≠ b → c < σ.n → σ.m c = some x → τ.m c = some x) (hwf : σ.wf B) : To B τ ((σ.set b X).up τ.n) := by
  refine To.sub rfl fun c x hc => ?_
  simp only [St.up_m] at hc
  by_cases e : c = b
  · subst e; rw [St.set_m_same] at hc; rw [hb, hc]
  · rw [St.set_m_ne _ _ e] at hc; exact hr c x e (hwf.2 c x hc).2 hc
theorem To.same {τ : St} (hr : ∀ c x, c < σ.n → σ.m c = some x → τ.m c = some x) (hwf : σ.wf B) : To B τ (σ.up τ.n) :=
  To.sub rfl fun c x hc => hr c x (hwf.2 c x hc).2 hc
/-- A function's contract, from its body; at the end memory may be seen by a smaller view. -/
theorem Fn.of' {f : FuncId} {n : Nat} {c : Code} {rs : Array ResultVar} (hf : FnIs P f n c rs) {args : Array Value} {K : Value → St → Prop} (hsz : args.size ≤ n)
    (h : σ.wf B → wpS P B none n c (retQ P B rs fun v σ' => ∃ σ'', To B σ' σ'' ∧ K v σ'') (fr0 args) σ) : Fn P B f args σ K :=
  Fn.conseq (Fn.of hf hsz h) fun _ _ h => h

/-! ### Calls -/
variable {K : Value → St → Prop} {args args' : Array Value} {σ' : St} {f : FuncId} {g g' : Value}
def callF (P : Program) (B : World) (f : FuncId) (args : Array Value) (d : Option Tmp) (K : Fr → St → Prop) (e : Fr) (σ : St) : Prop := Fn P B f args σ fun v σ' => K (e.put d v) σ'
def callR (P : Program) (B : World) (l : Nat) (args : Array Value) (d : Option Tmp) (K : Fr → St → Prop) (e : Fr) (σ : St) : Prop := Rd P B l args σ fun v σ' => K (e.put d v) σ'
@[go_sem] theorem callK_func {P : Program} {B : World} {f : FuncId} {first cap args : Array Value} {d : Option Tmp} {K : Fr → St → Prop} {e : Fr} {σ : St} :
    callK P B (.func (.func f) first cap) args d K e σ = callF P B f (first ++ args ++ cap) d K e σ := rfl
@[go_sem] theorem callK_yield {P : Program} {B : World} {l : Nat} {first cap args : Array Value} {d : Option Tmp} {K : Fr → St → Prop} {e : Fr} {σ : St} :
    callK P B (.func (.yield l) first cap) args d K e σ = callR P B l (first ++ args) d K e σ := rfl
/-- A call, by its contract. -/
theorem callF_of {P : Program} {B : World} {f : FuncId} {args : Array Value} {d : Option Tmp} {K : Fr → St → Prop} {e : Fr} {σ : St} (h : Fn P B f args σ fun v σ' => K (e.put d v) σ') : callF P B f args d K e σ := h
theorem callR_of {P : Program} {B : World} {l : Nat} {args : Array Value} {d : Option Tmp} {K : Fr → St → Prop} {e : Fr} {σ : St} (h : Rd P B l args σ fun v σ' => K (e.put d v) σ') : callR P B l args d K e σ := h
theorem callK_any {P : Program} {B : World} {g : Value} {args : Array Value} {d : Option Tmp} {K : Fr → St → Prop} {e : Fr} {σ : St} (h : FnV P B g args σ fun v σ' => K (e.put d v) σ') :
    callK P B g args d K e σ := h
@[go_sem] theorem FnV_func {first cap : Array Value} : FnV P B (.func (.func f) first cap) args σ K = Fn P B f (first ++ args ++ cap) σ K := rfl
@[go_sem] theorem FnV_yield {l : Nat} {first cap : Array Value} : FnV P B (.func (.yield l) first cap) args σ K = Rd P B l (first ++ args) σ K := rfl

/-! ### Returns -/
@[go_sem] theorem retQ_ret {rs : Array ResultVar} : retQ P B rs K .ret e σ = Leave P B e.d σ fun σ' => bindK (resL P B σ' e rs.toList) fun vs => K (tup vs) σ' := rfl
@[go_sem] theorem retQ_normal {rs : Array ResultVar} : retQ P B rs K .normal e σ = Leave P B e.d σ fun σ' => bindK (resL P B σ' e rs.toList) fun vs => K (tup vs) σ' := rfl
@[go_sem] theorem Leave_nil {K : St → Prop} : Leave P B [] σ K = K σ := rfl
@[go_sem] theorem resL_nil : resL P B σ e [] = some [] := rfl
@[go_sem] theorem resL_tmp {i : Tmp} {rs : List ResultVar} : resL P B σ e (.tmp i :: rs) = (resL P B σ e rs).map fun l => e.v i :: l := rfl
def resC (P : Program) (B : World) (σ : St) (t : TypeId) (x : Value) (l : Option (List Value)) : Option (List Value) := (ldp P B σ t x).bind fun v => l.map fun l => v :: l
@[go_sem] theorem resL_cell {i : Tmp} {rs : List ResultVar} : resL P B σ e (.cell i t :: rs) = resC P B σ t (e.v i) (resL P B σ e rs) := by
  simp only [resL, resC, ldp]
  cases e.v i with
  | pointer a => cases a <;> rfl
  | _ => rfl
@[go_sem] theorem resC_ptr {b o : Nat} {l : Option (List Value)} : resC P B σ t (.pointer (some ⟨b, o, none⟩)) l = (ldK B σ b o (tk P t)).bind fun v => l.map fun l => v :: l := by
  simp only [resC, ldp_eq]
@[simp, go_sem] theorem tup_one {v : Value} : tup [v] = v := rfl
@[simp, go_sem] theorem tup_nil : tup [] = .tuple #[] := rfl
@[simp, go_sem] theorem tup_two {v w : Value} {l : List Value} : tup (v :: w :: l) = .tuple (v :: w :: l).toArray := rfl
def argV : List Value → Nat → Value
  | [], _ => undef
  | v :: _, 0 => v
  | _ :: l, j + 1 => argV l j
theorem argV_eq : ∀ (l : List Value) (j : Nat), argV l j = l.toArray.getD j undef
  | [], j => by simp [argV]
  | v :: l, 0 => by simp [argV]
  | v :: l, j + 1 => by simp [argV, argV_eq l j]
@[go_sem] theorem argV_nil {j : Nat} : argV [] j = undef := rfl
@[go_sem] theorem argV_zero {v : Value} {l : List Value} : argV (v :: l) 0 = v := rfl
@[go_sem] theorem argV_succ {v : Value} {l : List Value} {j : Nat} : argV (v :: l) (j + 1) = argV l j := rfl
@[go_sem] theorem fr0_v {l : List Value} {i : Nat} : (fr0 l.toArray).v i = argV l i := by rw [argV_eq]; rfl
@[go_sem] theorem fr0_d : (fr0 args).d = [] := rfl
end
end Go.Proofs.YtdbgeahmhfocaaaGreat

/- More rules for the walk: what is indexed, sliced, measured, converted, made. -/
namespace Go.Proofs.YtdbgeahmhfocaaaGreat
set_option linter.unusedSimpArgs false
set_option linter.unusedVariables false
open Go Go.RowKit

section
variable {P : Program} {B : World} {σ : St} {e : Fr} {t : TypeId} {d : Option Tmp} {K : Fr → St → Prop} {k k' : IntKind}
attribute [go_sem] decide_eq_true_eq beq_true beq_false Int.toNat_natCast Nat.mul_one Nat.one_mul Nat.zero_mul Nat.mul_zero Nat.add_zero

@[go_sem] theorem rdK_none {b o : Nat} : rdK B b o none = if b < B.heap.size then B.cell? ⟨b, o, none⟩ else none := rfl

/-- A call that leaves all as it was, by its contract. -/
theorem effD_quiet {ops : Array Oper} {i : Nat} {rest : List Oper} {X : DC → Fr → St → Prop} {rn : Bool} {e0 : Fr} {f : Operand} {as : List Operand} {ts : Array TypeId} {ty : TypeId} {pos : String} {af : Array Edge} {g : Option (Nat × Bool)} (v : Value)
    (hq : ∀ m, σ.n ≤ m → FnV P B (ev e f) (as.map (ev e)).toArray (σ.up m) fun v' σ' => v' = v ∧ ∃ m', m ≤ m' ∧ σ' = σ.up m') (h : X ⟨true, rn, e0⟩ (e.put d v) σ) :
    effD P B ops i ⟨d, .call ⟨.value f, as.toArray, ts⟩, ty, pos, af, g⟩ rest K X ⟨true, rn, e0⟩ e σ :=
  effD_call ⟨f, as.toArray, ts, rfl, fun m hm => by simpa using hq m hm⟩ h

/-- A loop's end by one way out, 'exit id', is spoken of once. -/
def exQ (id : Nat) (J : Fr → St → Prop) (Q : Exit → Fr → St → Prop) : Exit → Fr → St → Prop
  | .exit j, e, σ => if j = id then J e σ else Q (.exit j) e σ
  | x, e, σ => Q x e σ
@[go_sem] theorem exQ_exit {id j : Nat} {J : Fr → St → Prop} {Q : Exit → Fr → St → Prop} : exQ id J Q (.exit j) e σ = if j = id then J e σ else Q (.exit j) e σ := rfl
@[go_sem] theorem exQ_ret {id : Nat} {J : Fr → St → Prop} {Q : Exit → Fr → St → Prop} : exQ id J Q .ret e σ = Q .ret e σ := rfl
theorem loop_rule' {r : Option Nat} {n : Nat} {c : Code} {Q : Exit → Fr → St → Prop} (I : Nat → Fr → St → Prop) (m : Nat) (id : Nat) (J : Fr → St → Prop) (h0 : I m e σ)
    (hr : ∀ m e σ, σ.wf B → I m e σ → wpS P B r n c (thenQ (fun e' σ' => ∃ m', m' < m ∧ I m' e' σ') (exQ id J Q)) e σ)
    (hJ : ∀ e σ, σ.wf B → J e σ → Q (.exit id) e σ) : LoopS P B r n c Q e σ := by
  intro hmix hok a w ha hw
  refine wpIn_mono (loop_rule (Q := exQ id J Q) I m h0 hr hmix hok a w ha hw) ?_
  rintro x a' w' ⟨e', σ', ha', hw', h⟩
  refine ⟨e', σ', ha', hw', ?_⟩
  cases x with
  | exit j =>
    simp only [exQ] at h
    split at h
    · rename_i e1; subst e1; exact hJ _ _ hw'.wf h
    · exact h
  | _ => exact h

@[go_sem] theorem bne_tf : (true != false) = true := rfl
@[go_sem] theorem bne_ft : (false != true) = true := rfl
@[go_sem] theorem boolOf_undef : boolOf undef = none := rfl
@[go_sem] theorem none_beq_bool {b : Bool} : ((none : Option Bool) == some b) = false := rfl
@[go_sem] theorem bne_f {b : Bool} : (b != false) = b := by cases b <;> rfl
@[go_sem] theorem bne_t {b : Bool} : (b != true) = !b := by cases b <;> rfl

def ixS (b o n : Nat) (i : Int) : Option (Option Nat × Nat × Bool) → Option Value
  | some (none, s, _) => if 0 ≤ i ∧ i < n then some (.pointer (some ⟨b, o + i.toNat * s, none⟩)) else none
  | _ => none
@[go_sem] theorem ixa_slice {b o n c : Nat} {i : Int} : ixa P t (.slice (some ⟨b, o, none⟩) n c) (.int k i) = ixS b o n i (ik P t) := by
  unfold ixa ixS
  cases ik P t with
  | none => rfl
  | some x =>
    obtain ⟨y, s, g⟩ := x
    cases y with
    | none => simp [add_none]
    | some y => rfl
@[go_sem] theorem ixS_some {b o n s : Nat} {i : Int} {g : Bool} : ixS b o n i (some (none, s, g)) = if 0 ≤ i ∧ i < n then some (.pointer (some ⟨b, o + i.toNat * s, none⟩)) else none := rfl
def ixR (b o : Nat) (i : Int) : Option (Option Nat × Nat × Bool) → Option Value
  | some (some n, s, _) => if 0 ≤ i ∧ i < n then some (.pointer (some ⟨b, o + i.toNat * s, none⟩)) else none
  | _ => none
@[go_sem] theorem ixa_array {b o : Nat} {i : Int} : ixa P t (.pointer (some ⟨b, o, none⟩)) (.int k i) = ixR b o i (ik P t) := by
  unfold ixa ixR
  cases ik P t with
  | none => rfl
  | some x =>
    obtain ⟨y, s, g⟩ := x
    cases y with
    | none => rfl
    | some y => simp [add_none]
@[go_sem] theorem ixR_some {b o n s : Nat} {i : Int} {g : Bool} : ixR b o i (some (some n, s, g)) = if 0 ≤ i ∧ i < n then some (.pointer (some ⟨b, o + i.toNat * s, none⟩)) else none := rfl

def fldA (cs : Array Value) : Option (Nat × Option Nat) → Option Value
  | some (off, some n) => some (.agg (cs.extract off (off + n)))
  | some (off, none) => cs[off]?
  | none => none
@[go_sem] theorem fld_agg {f : Nat} {cs : Array Value} : fld P t f (.agg cs) = fldA cs (fk P t f) := by
  unfold fld fldA
  cases fk P t f with
  | none => rfl
  | some x => obtain ⟨a, b⟩ := x; cases b <;> rfl
@[go_sem] theorem fldA_one {cs : Array Value} {off : Nat} : fldA cs (some (off, none)) = cs[off]? := rfl
@[go_sem] theorem fldA_lit {l : List Value} {off : Nat} : fldA l.toArray (some (off, none)) = nthV l off := by simp [fldA, nthV_eq]
def subL : List Value → Nat → Nat → List Value
  | _, _, 0 => []
  | [], _, _ => []
  | v :: l, 0, n + 1 => v :: subL l 0 n
  | _ :: l, o + 1, n => subL l o n
theorem subL_eq : ∀ (l : List Value) (o n : Nat), subL l o n = (l.drop o).take n
  | [], o, n => by cases n <;> simp [subL]
  | v :: l, o, 0 => by cases o <;> simp [subL]
  | v :: l, 0, n + 1 => by simp [subL, subL_eq l 0 n]
  | v :: l, o + 1, n + 1 => by simp [subL, subL_eq l o (n + 1)]
@[go_sem] theorem fldA_sub {l : List Value} {off n : Nat} : fldA l.toArray (some (off, some n)) = some (.agg (subL l off n).toArray) := by
  simp [fldA, subL_eq, List.extract_eq_take_drop]
@[go_sem] theorem subL_zero {l : List Value} {o : Nat} : subL l o 0 = [] := by simp [subL_eq]
@[go_sem] theorem subL_take {v : Value} {l : List Value} {n : Nat} : subL (v :: l) 0 (n + 1) = v :: subL l 0 n := rfl
@[go_sem] theorem subL_drop {v : Value} {l : List Value} {o n : Nat} : subL (v :: l) (o + 1) n = subL l o n := by simp [subL_eq]

@[go_sem] theorem ixv_string {s : ByteArray} {i : Int} : ixv P t (.string s) (.int k i) = if kd P t = .string ∧ 0 ≤ i then (s[i.toNat]?).map fun b => .int .u8 b.toNat else none := rfl

@[go_sem] theorem len_slice {a : Option Addr} {n c : Nat} : bi P σ .len #[t] [.slice a n c] = if kd P t = .slice then some (.int .i64 n) else none := rfl
@[go_sem] theorem len_string {s : ByteArray} : bi P σ .len #[t] [.string s] = if kd P t = .string then some (.int .i64 s.size) else none := rfl
@[go_sem] theorem len_map_nil : bi P σ .len #[t] [.map none] = if kd P t = .map then some (.int .i64 0) else none := rfl
def lenM : Option HP → Option Value
  | some (.raw (.map es _)) => some (.int .i64 es.size)
  | _ => none
@[go_sem] theorem len_map {r : Nat} : bi P σ .len #[t] [.map (some r)] = if kd P t = .map then lenM (σ.m r) else none := by
  simp only [bi]; simp only [Array.getElem?_eq_getElem, List.size_toArray, List.length_singleton, Nat.lt_one_iff, List.getElem_toArray, List.getElem_cons_zero]; rfl
@[go_sem] theorem lenM_raw {es : Array MapEntry} {c : Nat} : lenM (some (.raw (.map es c))) = some (.int .i64 es.size) := rfl
@[go_sem] theorem cap_slice {a : Option Addr} {n c : Nat} : bi P σ .cap #[t] [.slice a n c] = if kd P t = .slice then some (.int .i64 c) else none := rfl
@[go_sem] theorem max_int {ts : Array TypeId} {x y : Int} : bi P σ .max ts [.int k x, .int k' y] = some (.int k (max x y)) := by
  simp only [bi, fold2, mx2, Option.bind_some]; congr 2; omega
@[go_sem] theorem min_int {ts : Array TypeId} {x y : Int} : bi P σ .min ts [.int k x, .int k' y] = some (.int k (min x y)) := by
  simp only [bi, fold2, mn2, Option.bind_some]; congr 2; omega

def cvI (n : Int) : Kd → Kd → Option Value
  | .int k, .int _ => some (.int k (k.wrap n))
  | _, _ => none
@[go_sem] theorem cv_int {s d : TypeId} {n : Int} : cv P s d (.int k n) = cvI n (kd P d) (kd P s) := by
  unfold cv cvI
  cases kd P d <;> cases kd P s <;> rfl
@[go_sem] theorem cvI_int {n : Int} : cvI n (.int k) (.int k') = some (.int k (k.wrap n)) := rfl
@[go_sem] theorem wrap_u8 {x : Int} (h : 0 ≤ x ∧ x ≤ 255) : IntKind.u8.wrap x = x := by
  simp only [IntKind.wrap, IntKind.bits, IntKind.signed]
  simp
  omega
@[go_sem] theorem wrap_u16 {x : Int} (h : 0 ≤ x ∧ x ≤ 65535) : IntKind.u16.wrap x = x := by
  simp only [IntKind.wrap, IntKind.bits, IntKind.signed]
  simp
  omega

/-- 'make', its numbers known. -/
def zc (z : Value) (n : Nat) : Array Value := zcells z.cells n
def mkR (P : Program) (l c : Int) (d : Option Tmp) (K : Fr → St → Prop) (e : Fr) (σ : St) : Option (TypeId × Nat × Nat) → Prop
  | some (t, s, b) => (0 ≤ l ∧ l ≤ c ∧ c < 2 ^ 62 ∧ b * c ≤ 2 ^ 48) ∧ bindK (zr P t) fun z => K (e.put d (.slice (some ⟨σ.n, 0, none⟩) l.toNat c.toNat)) ((σ.set σ.n (.raw (.cells (zc z (c.toNat * s)) t (0, 0)))).up (σ.n + 1))
  | none => False
@[go_sem] theorem mkK_eq {l c : Int} : mkK P t (.int k l) (.int k' c) d K e σ = mkR P l c d K e σ (se P t) := by
  unfold mkK mkS mkR
  cases se P t with
  | none => rfl
  | some x =>
    obtain ⟨u, s, b⟩ := x
    simp only
    congr 1
    have : ∀ z : Value, (if c.toNat * s = 0 then (#[] : Array Value) else zcells z.cells (c.toNat * s)) = zc z (c.toNat * s) := fun z => by
      by_cases h : c.toNat * s = 0
      · simp [h, zc, zcells]
      · simp [h, zc]
    simp only [this]; rfl
theorem mkR_some {l c : Int} {s b : Nat} (h : 0 ≤ l ∧ l ≤ c ∧ c < 2 ^ 62 ∧ b * c ≤ 2 ^ 48) :
    mkR P l c d K e σ (some (t, s, b)) = bindK (zr P t) fun z => K (e.put d (.slice (some ⟨σ.n, 0, none⟩) l.toNat c.toNat)) ((σ.set σ.n (.raw (.cells (zc z (c.toNat * s)) t (0, 0)))).up (σ.n + 1)) := by
  show (_ ∧ _) = _
  simp only [h, and_self, true_and]
attribute [go_sem] mkR_some
theorem zc_one {z : Value} (h : z.cells = #[z]) (n : Nat) : zc z n = Array.replicate n z := by
  apply Array.ext
  · simp [zc, zcells]
  · intro i h1 h2
    simp [zc, zcells, h, Nat.mod_one]
end
end Go.Proofs.YtdbgeahmhfocaaaGreat

/- Slices that a frame owns, and objects that are folded: how they are opened, changed and closed. -/
namespace Go.Proofs.YtdbgeahmhfocaaaGreat
set_option linter.unusedSimpArgs false
set_option linter.unusedVariables false
open Go Go.RowKit

/-! ### Cells of a row -/
section
variable {P : Program} {B : World} {σ : St}

theorem rds_cells {b o : Nat} {c : Array Value} {ty : TypeId} {fz : Nat × Nat} (hm : σ.m b = some (.raw (.cells c ty fz))) : ∀ (l : List Value) (i : Nat), (∀ j v, l[j]? = some v → c[o + i + j]? = some v) → rds B σ ⟨b, o, none⟩ i l.length = some l
  | [], i, _ => rfl
  | v :: l, i, h => by
    simp only [List.length_cons, rds_succ, hm]
    have h0 := h 0 v rfl
    simp only [Nat.add_zero] at h0
    rw [rdK_raw, h0, rds_cells hm l (i + 1) fun j v hj => by
      have := h (j + 1) v (by simpa using hj)
      rw [← this]; congr 1; omega]
    rfl

theorem wrl_list : ∀ (vs xs sp : List Value), vs.length ≤ sp.length → wrl (xs ++ sp).toArray xs.length vs = (xs ++ vs ++ sp.drop vs.length).toArray
  | [], xs, sp, _ => by simp [wrl]
  | v :: vs, xs, [], h => by simp at h
  | v :: vs, xs, y :: sp, h => by
    simp only [wrl, List.length_cons, List.drop_succ_cons]
    have e : (xs ++ y :: sp).toArray.setIfInBounds xs.length v = ((xs ++ [v]) ++ sp).toArray := by
      simp [List.setIfInBounds_toArray]
    rw [e]
    have hl : xs.length + 1 = (xs ++ [v]).length := by simp
    rw [hl, wrl_list vs (xs ++ [v]) sp (by simpa using h)]
    simp

/-- Rows of cells laid one behind another. -/
def flat {α : Type} (f : α → List Value) (l : List α) : List Value := l.flatMap f
theorem flat_length {α : Type} {f : α → List Value} {s : Nat} (hf : ∀ x, (f x).length = s) : ∀ l : List α, (flat f l).length = l.length * s
  | [] => by simp [flat]
  | x :: l => by
    have := flat_length hf l
    simp only [flat, List.flatMap_cons, List.length_append, List.length_cons] at this ⊢
    rw [this, hf, Nat.add_mul, Nat.one_mul, Nat.add_comm]
theorem flat_get {α : Type} {f : α → List Value} {s : Nat} (hf : ∀ x, (f x).length = s) : ∀ (l : List α) (sp : List Value) (i : Nat) (x : α) (j : Nat) (v : Value), l[i]? = some x → (f x)[j]? = some v → (flat f l ++ sp)[i * s + j]? = some v
  | [], sp, i, x, j, v, h, _ => by simp at h
  | y :: l, sp, 0, x, j, v, h, hj => by
    simp at h; subst h
    have hl := (List.getElem?_eq_some_iff.1 hj).1
    simp only [flat, List.flatMap_cons, List.append_assoc, Nat.zero_mul, Nat.zero_add]
    rw [List.getElem?_append_left hl]; exact hj
  | y :: l, sp, i + 1, x, j, v, h, hj => by
    have := flat_get hf l sp i x j v (by simpa using h) hj
    simp only [flat, List.flatMap_cons, List.append_assoc] at this ⊢
    rw [List.getElem?_append_right (by rw [hf, Nat.add_mul]; omega)]
    rw [← this, hf, Nat.add_mul]; congr 1; omega
theorem flat_append {α : Type} (f : α → List Value) (l l' : List α) : flat f (l ++ l') = flat f l ++ flat f l' := by simp [flat]
theorem flat_set {α : Type} {f : α → List Value} {s : Nat} (hf : ∀ x, (f x).length = s) : ∀ (l : List α) (sp : List Value) (i : Nat) (x x' : α) (j : Nat) (v : Value), l[i]? = some x → j < s → f x' = (f x).set j v →
    (flat f l ++ sp).set (i * s + j) v = flat f (l.set i x') ++ sp
  | [], sp, i, x, x', j, v, h, _, _ => by simp at h
  | y :: l, sp, 0, x, x', j, v, h, hj, hx => by
    simp at h; subst h
    simp only [flat, List.flatMap_cons, List.append_assoc, Nat.zero_mul, Nat.zero_add, List.set_cons_zero, hx]
    rw [List.set_append_left _ _ (by rw [hf]; exact hj)]
  | y :: l, sp, i + 1, x, x', j, v, h, hj, hx => by
    have := flat_set hf l sp i x x' j v (by simpa using h) hj hx
    simp only [flat, List.flatMap_cons, List.append_assoc, List.set_cons_succ] at this ⊢
    rw [List.set_append_right _ _ (by rw [hf, Nat.add_mul]; omega), ← this, hf]
    congr 2; rw [Nat.add_mul]; omega

/-! ### A slice that is owned -/
/-- The block of a slice. -/
def blk : Value → Option Nat
  | .slice (some a) _ _ => some a.block
  | _ => none

/-- The slice 'v' of 'n' elements of 's' cells each holds the cells 'cs'; its block is one of the view's own, laid open. -/
def Own (σ : St) (ty : TypeId) (s : Nat) (cs : List Value) (n : Nat) (v : Value) : Prop :=
  cs.length = n * s ∧ ((v = .slice none 0 0 ∧ n = 0) ∨ ∃ b cap sp, v = .slice (some ⟨b, 0, none⟩) n cap ∧ n ≤ cap ∧ σ.m b = some (.raw (.cells (cs ++ sp).toArray ty (0, 0))) ∧ (cs ++ sp).length = cap * s)

theorem Own.nil {ty : TypeId} {s : Nat} : Own σ ty s [] 0 (.slice none 0 0) := ⟨by simp, .inl ⟨rfl, rfl⟩⟩

theorem Own.keep {ty : TypeId} {s n : Nat} {cs : List Value} {v : Value} {σ' : St} (h : Own σ ty s cs n v) (hk : ∀ b x, blk v = some b → σ.m b = some x → σ'.m b = some x) : Own σ' ty s cs n v := by
  obtain ⟨h1, h | ⟨b, cap, sp, rfl, h2, h3, h4⟩⟩ := h
  · exact ⟨h1, .inl h⟩
  · exact ⟨h1, .inr ⟨b, cap, sp, rfl, h2, hk b _ rfl h3, h4⟩⟩

theorem Own.is {ty : TypeId} {s n : Nat} {cs : List Value} {v : Value} (h : Own σ ty s cs n v) : ∃ a cap, v = .slice a n cap ∧ n ≤ cap := by
  obtain ⟨h1, ⟨rfl, rfl⟩ | ⟨b, cap, sp, rfl, h2, _⟩⟩ := h
  · exact ⟨_, _, rfl, Nat.le_refl _⟩
  · exact ⟨_, _, rfl, h2⟩

theorem Own.fc {ty : TypeId} {s n : Nat} {cs : List Value} {v : Value} (h : Own σ ty s cs n v) : fc B σ s v = some (n, cs) := by
  obtain ⟨h1, ⟨rfl, rfl⟩ | ⟨b, cap, sp, rfl, h2, h3, h4⟩⟩ := h
  · have : cs = [] := by simpa using h1
    subst this; rfl
  · have := rds_cells (B := B) (o := 0) h3 cs 0 (fun j v hj => by
      have hl := (List.getElem?_eq_some_iff.1 hj).1
      simp only [Nat.zero_add, List.getElem?_toArray]
      rw [List.getElem?_append_left hl]; exact hj)
    simp only [Go.Proofs.YtdbgeahmhfocaaaGreat.fc, ← h1, this, Option.map_some]

theorem Own.trunc {ty : TypeId} {s n : Nat} {cs : List Value} {a : Option Addr} {cap : Nat} (h : Own σ ty s cs n (.slice a n cap)) {k : Nat} (hk : k ≤ n) : Own σ ty s (cs.take (k * s)) k (.slice a k cap) := by
  obtain ⟨h1, ⟨h2, rfl⟩ | ⟨b, cap, sp, h2, h3, h4, h5⟩⟩ := h
  · have : k = 0 := by omega
    subst this
    cases h2
    exact ⟨by simp, .inl ⟨rfl, rfl⟩⟩
  · cases h2
    have hks : k * s ≤ cs.length := by rw [h1]; exact Nat.mul_le_mul_right _ hk
    refine ⟨by simp; omega, .inr ⟨b, cap, cs.drop (k * s) ++ sp, rfl, by omega, ?_, ?_⟩⟩
    · rw [← List.append_assoc, List.take_append_drop]; exact h4
    · rw [← List.append_assoc, List.take_append_drop]; exact h5

/-- 'append' to a slice that is owned: of whatever can be read. -/
theorem app_own2 {K : Value → St → Prop} {t xt el : TypeId} {s bts n m : Nat} {z sv xv : Value} {cs ys : List Value} (ht : se P t = some (el, s, bts)) (hxt : kd P xt = .string ∨ kd P xt = .slice) (hz : zr P el = some z) (hzs : z.cells.size = s) (hb0 : bts ≠ 0)
    (hs : Own σ el s cs n sv) (hx : fc B σ s xv = some (m, ys)) (hyl : ys.length = m * s) (hy1 : ys.all Value.oneCell' = true) (hroom : (2 * (n + m) + 768) * bts ≤ 2 ^ 48)
    (hK : ∀ v' σ', Own σ' el s (cs ++ ys) (n + m) v' → (∀ b, blk v' = some b → (b = σ.n ∧ σ.n < σ'.n) ∨ blk sv = some b) → (∀ c, blk v' ≠ some c → σ'.m c = σ.m c) → σ.n ≤ σ'.n → K v' σ') :
    appS P B σ t xt sv xv K := by
  have hfs := hs.fc (B := B)
  obtain ⟨h1, hcase⟩ := hs
  have grow : ∀ nc, n + m ≤ nc → K (.slice (some ⟨σ.n, 0, none⟩) (n + m) nc) (σ.new (.cells ((cs ++ ys).toArray ++ Builtin.zeroCells z.cells (nc - (n + m))) el (0, 0))) := by
    intro nc hnc
    refine hK _ _ ⟨by simp [h1, hyl, Nat.add_mul], .inr ⟨σ.n, nc, (Builtin.zeroCells z.cells (nc - (n + m))).toList, rfl, hnc, ?_, ?_⟩⟩ (fun b hb => by simp [blk] at hb; exact .inl ⟨hb.symm, by simp⟩) (fun c hc => ?_) (by simp)
    · rw [St.new_m_same]; congr 3; apply Array.ext'; simp
    · simp only [List.length_append, h1, hyl, Builtin.zeroCells, Array.length_toList, Array.size_map, Array.size_range, hzs]
      rw [← Nat.add_mul, ← Nat.add_mul]; congr 1; omega
    · refine St.new_m_ne _ _ fun e => hc (by simp [blk, e])
  rcases hcase with ⟨rfl, rfl⟩ | ⟨b, cap, sp, rfl, h2, h3, h4⟩
  · refine ⟨none, 0, 0, el, s, bts, m, ys, z, rfl, ht, hxt, hx, hz, hb0, hyl, hy1, fun hm => ?_, fun hm => ⟨by simpa using hroom, cs, hfs, fun nc hnc => grow nc hnc⟩⟩
    have : m = 0 := by omega
    subst this
    have hy : ys = [] := by simpa using hyl
    have hc : cs = [] := by simpa using h1
    subst hy hc
    exact ⟨σ, rfl, hK _ _ Own.nil (fun b hb => by simp [blk] at hb) (fun _ _ => rfl) (Nat.le_refl _)⟩
  · refine ⟨some ⟨b, 0, none⟩, n, cap, el, s, bts, m, ys, z, rfl, ht, hxt, hx, hz, hb0, hyl, hy1, fun hm => ?_, fun hm => ⟨hroom, cs, hfs, fun nc hnc => grow nc hnc⟩⟩
    have hspl : ys.length ≤ sp.length := by
      have h5 : (n + m) * s ≤ cap * s := Nat.mul_le_mul_right _ hm
      rw [Nat.add_mul] at h5
      rw [List.length_append] at h4
      omega
    have hadd : (⟨b, 0, none⟩ : Addr).add (n * s) = ⟨b, n * s, none⟩ := by rw [add_mk]; simp
    refine ⟨σ.set b (.raw (.cells (cs ++ ys ++ sp.drop ys.length).toArray el (0, 0))), ?_, ?_⟩
    · simp only [hadd, wrs_eq, h3, wrK_raw]
      rw [if_pos ⟨by rw [List.size_toArray, List.length_append]; omega, hy1⟩, ← h1, wrl_list _ _ _ hspl]
    · refine hK _ _ ⟨by simp [h1, hyl, Nat.add_mul], .inr ⟨b, cap, sp.drop ys.length, rfl, hm, by rw [St.set_m_same], ?_⟩⟩ (fun b' hb' => .inr hb') (fun c hc => ?_) (Nat.le_refl _)
      · rw [← h4]; simp; omega
      · exact St.set_m_ne _ _ fun e => hc (by simp [blk, e])
theorem app_own {K : Value → St → Prop} {t xt el : TypeId} {s bts n m : Nat} {z sv xv : Value} {cs ys : List Value} (ht : se P t = some (el, s, bts)) (hxt : kd P xt = .string ∨ kd P xt = .slice) (hz : zr P el = some z) (hzs : z.cells.size = s) (hb0 : bts ≠ 0)
    (hs : Own σ el s cs n sv) (hx : fc B σ s xv = some (m, ys)) (hyl : ys.length = m * s) (hy1 : ys.all Value.oneCell' = true) (hroom : (2 * (n + m) + 768) * bts ≤ 2 ^ 48)
    (hK : ∀ v' σ', Own σ' el s (cs ++ ys) (n + m) v' → (∀ b, blk v' = some b → b = σ.n ∨ blk sv = some b) → (∀ c, blk v' ≠ some c → σ'.m c = σ.m c) → σ.n ≤ σ'.n → K v' σ') :
    appS P B σ t xt sv xv K := app_own2 ht hxt hz hzs hb0 hs hx hyl hy1 hroom fun v' σ' h1 h2 h3 h4 => hK v' σ' h1 (fun b hb => (h2 b hb).imp And.left id) h3 h4
end

/-! ### A literal slice of one element; 'append' as the walk meets it -/
section
variable {P : Program} {B : World} {σ : St} {d : Option Tmp} {K : Fr → St → Prop} {e : Fr}
def bslY (el : TypeId) (d : Option Tmp) (K : Fr → St → Prop) (e : Fr) (σ : St) (s : Nat) (cs : Array Value) : Prop :=
  if cs.size = s ∧ s ≤ 16777216 then K (e.put d (.slice (some ⟨σ.n, 0, none⟩) 1 1)) ((σ.set σ.n (.raw (.cells cs el (0, 0)))).up (σ.n + 1)) else False
def bslZ (el : TypeId) (s : Nat) (v : Value) (d : Option Tmp) (K : Fr → St → Prop) (e : Fr) (σ : St) : Option Value → Prop
  | some _ => bslY el d K e σ s (vc v)
  | none => False
def bslR (P : Program) (v : Value) (d : Option Tmp) (K : Fr → St → Prop) (e : Fr) (σ : St) : Option (TypeId × Nat × Nat) → Prop
  | some (el, s, _) => bslZ el s v d K e σ (zr P el)
  | none => False
theorem wrl_all (c : Array Value) (l : List Value) (h : l.length = c.size) : wrl c 0 l = l.toArray := by
  have := wrl_list l [] c.toList (by simp [h])
  simp only [List.nil_append, List.length_nil, Array.toArray_toList] at this
  rw [this, List.drop_eq_nil_of_le (by simp [h])]; simp
@[go_sem] theorem bslK_one {t : TypeId} {v : Value} : bslK P t 1 [(0, v)] d K e σ = bslR P v d K e σ (se P t) := by
  unfold bslK bsl bslR bindK
  cases hse : se P t with
  | none => simp
  | some x =>
    obtain ⟨el, s, b⟩ := x
    simp only [Option.some.injEq, exists_eq_left']
    unfold bslZ
    cases hz : zr P el with
    | none => simp
    | some z =>
      simp only [Option.some.injEq, exists_eq_left']
      unfold bslY
      have hsz : (zcells z.cells (1 * s)).size = s := by simp [zcells]
      have hfl : Instr.fill (fun i => some (i * s, s)) (zcells z.cells (1 * s)) [(0, v)] = if (vc v).size = s then some (vc v) else none := by
        show fl _ _ _ = _
        rw [fill_cons, fillK_some, fill_nil]
        by_cases hv : (vc v).size = s
        · rw [if_neg (by simp only [hsz]; omega), if_pos hv, Nat.zero_mul, wrl_all _ _ (by simp only [hsz, Array.length_toList]; exact hv)]
        · rw [if_pos (.inl hv), if_neg hv]
      rw [hfl]
      apply propext
      by_cases hv : (vc v).size = s
      · simp only [hv, if_true, true_and, Option.some.injEq, exists_eq_left', Nat.one_mul]
        constructor
        · rintro ⟨h1, h3⟩; rw [if_pos h1]; exact h3
        · intro h
          split at h
          · rename_i hh; exact ⟨hh, h⟩
          · exact h.elim
      · simp [hv]
@[go_sem] theorem bslR_some {v : Value} {el : TypeId} {s b : Nat} : bslR P v d K e σ (some (el, s, b)) = bslZ el s v d K e σ (zr P el) := rfl
@[go_sem] theorem bslZ_some {v z : Value} {el : TypeId} {s : Nat} : bslZ el s v d K e σ (some z) = bslY el d K e σ s (vc v) := rfl
@[go_sem] theorem bslY_eq {el : TypeId} {s : Nat} {cs : Array Value} : bslY el d K e σ s cs = if cs.size = s ∧ s ≤ 16777216 then K (e.put d (.slice (some ⟨σ.n, 0, none⟩) 1 1)) ((σ.set σ.n (.raw (.cells cs el (0, 0)))).up (σ.n + 1)) else False := rfl

/-- '[]T{}'. -/
def bsl0 (P : Program) (d : Option Tmp) (K : Fr → St → Prop) (e : Fr) (σ : St) : Option (TypeId × Nat × Nat) → Prop
  | some (el, _, _) => bindK (zr P el) fun _ => K (e.put d (.slice (some ⟨σ.n, 0, none⟩) 0 0)) ((σ.set σ.n (.raw (.cells #[] el (0, 0)))).up (σ.n + 1))
  | none => False
@[go_sem] theorem bslK_nil {t : TypeId} : bslK P t 0 [] d K e σ = bsl0 P d K e σ (se P t) := by
  unfold bslK bsl bsl0 bindK
  cases hse : se P t with
  | none => simp
  | some x =>
    obtain ⟨el, s, b⟩ := x
    have hz : ∀ z : Value, zcells z.cells 0 = #[] := fun z => by simp [zcells, Array.range]
    simp only [Option.some.injEq, exists_eq_left', Nat.zero_mul, hz, Instr.fill, Nat.zero_le, true_and]
    rfl
@[go_sem] theorem bsl0_some {el : TypeId} {s b : Nat} : bsl0 P d K e σ (some (el, s, b)) = bindK (zr P el) fun _ => K (e.put d (.slice (some ⟨σ.n, 0, none⟩) 0 0)) ((σ.set σ.n (.raw (.cells #[] el (0, 0)))).up (σ.n + 1)) := rfl

/-- A block's own cells, read whole. -/
theorem fc_block {b n c s : Nat} {l : List Value} {ty : TypeId} {fz : Nat × Nat} (hm : σ.m b = some (.raw (.cells l.toArray ty fz))) (hl : l.length = n * s) : fc B σ s (.slice (some ⟨b, 0, none⟩) n c) = some (n, l) := by
  have := rds_cells (B := B) (o := 0) hm l 0 (fun j v hj => by simpa using hj)
  simp only [fc, ← hl, this, Option.map_some]
/-- 'append' of one element that a literal slice holds, to a slice that is owned. -/
theorem appK_one {t xt el : TypeId} {s bts n b c : Nat} {z sv : Value} {cs ys : List Value} (ht : se P t = some (el, s, bts)) (hxt : kd P xt = .slice) (hz : zr P el = some z) (hzs : z.cells.size = s) (hb0 : bts ≠ 0)
    (hs : Own σ el s cs n sv) {ty : TypeId} {fz : Nat × Nat} (hm : σ.m b = some (.raw (.cells ys.toArray ty fz))) (hyl : ys.length = s) (hy1 : ys.all Value.oneCell' = true) (hroom : (2 * (n + 1) + 768) * bts ≤ 2 ^ 48)
    (hK : ∀ v' σ', Own σ' el s (cs ++ ys) (n + 1) v' → (∀ b, blk v' = some b → b = σ.n ∨ blk sv = some b) → (∀ c, blk v' ≠ some c → σ'.m c = σ.m c) → σ.n ≤ σ'.n → K (e.put d v') σ') :
    appK P B t xt sv (.slice (some ⟨b, 0, none⟩) 1 c) d K e σ :=
  app_own ht (.inr hxt) hz hzs hb0 hs (fc_block hm (by omega)) (by omega) hy1 hroom fun v' σ' h1 h2 h3 h4 => hK v' σ' h1 h2 h3 h4
end

theorem appK_one2 {P : Program} {B : World} {σ : St} {d : Option Tmp} {K : Fr → St → Prop} {e : Fr} {t xt el : TypeId} {s bts n b c : Nat} {z sv : Value} {cs ys : List Value} (ht : se P t = some (el, s, bts)) (hxt : kd P xt = .slice) (hz : zr P el = some z) (hzs : z.cells.size = s) (hb0 : bts ≠ 0)
    (hs : Own σ el s cs n sv) {ty : TypeId} {fz : Nat × Nat} (hm : σ.m b = some (.raw (.cells ys.toArray ty fz))) (hyl : ys.length = s) (hy1 : ys.all Value.oneCell' = true) (hroom : (2 * (n + 1) + 768) * bts ≤ 2 ^ 48)
    (hK : ∀ v' σ', Own σ' el s (cs ++ ys) (n + 1) v' → (∀ b, blk v' = some b → (b = σ.n ∧ σ.n < σ'.n) ∨ blk sv = some b) → (∀ c, blk v' ≠ some c → σ'.m c = σ.m c) → σ.n ≤ σ'.n → K (e.put d v') σ') :
    appK P B t xt sv (.slice (some ⟨b, 0, none⟩) 1 c) d K e σ :=
  app_own2 ht (.inr hxt) hz hzs hb0 hs (fc_block hm (by omega)) (by omega) hy1 hroom fun v' σ' h1 h2 h3 h4 => hK v' σ' h1 h2 h3 h4

/-! ### Objects that are folded -/
section
variable {P : Program} {B : World} {σ : St} {K : Value → St → Prop} {f : FuncId} {args : Array Value}

/-- A function's contract where an object is opened ahead of the call: what is left to know of the view behind. -/
theorem Fn.opens {p : Nat} {R : Heaplet → Prop} (hm : σ.m p = some (.comp R)) (he : ∃ fn, P.funcs[f]? = some fn ∧ (fn.name == "runtime.NumGoroutine") = false ∧ fn.body.isSome = true)
    (h : ∀ (g : Heaplet) (τ : St), R g → τ.wf B → τ.n = σ.n → (∀ c o, g c = some o → τ.m c = some (.raw o)) → (∀ c o, g c = some o → c = p ∨ σ.m c = none) → (∀ c x, c ≠ p → σ.m c = some x → τ.m c = some x) → Fn P B f args τ K) : Fn P B f args σ K := by
  refine ⟨he, fun w hw => ?_⟩
  obtain ⟨g, hR, hd, hr⟩ := hw.opens hm
  refine (h g (σ.over p g) hR hr.wf rfl (fun c o hc => by simp [St.over, hc]) hd (fun c x hcp hc => ?_)).2 w hr
  have hgc : g c = none := by
    cases hg : g c with
    | none => rfl
    | some o => rcases hd c o hg with h1 | h1
                · exact absurd h1 hcp
                · rw [hc] at h1; cases h1
  simp [St.over, hgc, hcp, hc]

/-- Some blocks of a view, as they lie. -/
def pick (τ : St) (ids : List Nat) : Heaplet := fun c => if c ∈ ids then (match τ.m c with | some (.raw o) => some o | _ => none) else none
theorem pick_of {τ : St} {ids : List Nat} {c : Nat} {o : Obj} (hc : c ∈ ids) (hm : τ.m c = some (.raw o)) : pick τ ids c = some o := by simp [pick, hc, hm]

/-- An object is closed: the blocks 'ids' are hidden in it; all else that was there is there. -/
theorem To.close {τ : St} {p : Nat} {R : Heaplet → Prop} (ids : List Nat) {o : Obj} (hp : p ∈ ids) (hpo : τ.m p = some (.raw o)) (hR : R (pick τ ids))
    (hrest : ∀ c x, c ≠ p → σ.m c = some x → c ∉ ids ∧ τ.m c = some x) : To B τ ((σ.set p (.comp R)).up τ.n) := by
  have h1 : To B τ (τ.fold p (pick τ ids) R) := To.fold p (pick τ ids) (fun c o' hc => by
    unfold pick at hc
    split at hc
    · split at hc <;> first | contradiction | skip
      rename_i o2 hm
      cases hc; exact hm
    · cases hc) (by rw [pick_of hp hpo]; rfl) hR
  refine h1.trans (To.sub rfl fun c x hc => ?_)
  simp only [St.up_m] at hc
  by_cases e : c = p
  · subst e
    rw [St.set_m_same] at hc; cases hc
    simp [St.fold]
  · rw [St.set_m_ne _ _ e] at hc
    obtain ⟨h2, h3⟩ := hrest c x e hc
    simp [St.fold, e, pick, h2, h3]
end
end Go.Proofs.YtdbgeahmhfocaaaGreat

/- What is asked behind an operation, or a region, may be said in other words: a mid-condition, so that many orders end in one. -/
namespace Go.Proofs.YtdbgeahmhfocaaaGreat
set_option linter.unusedSimpArgs false
set_option linter.unusedVariables false
open Go Go.RowKit

section
variable {P : Program} {B : World} {σ : St}

theorem bindK_mono {α : Type} {x : Option α} {K K' : α → Prop} (hk : ∀ v, K v → K' v) (h : bindK x K) : bindK x K' := let ⟨v, e, h⟩ := h; ⟨v, e, hk v h⟩
theorem NextR_mono {r : Result Next} {K K' : Value → St → Prop} (hk : ∀ v σ', K v σ' → K' v σ') (hh : NextR P B r K) : NextR P B r K' := by
  unfold NextR at hh ⊢
  split at hh <;> first | contradiction | skip
  · obtain ⟨s, a, b⟩ := hh; exact ⟨s, a, hk _ _ b⟩
  · obtain ⟨s, a, b⟩ := hh; exact ⟨s, a, hk _ _ b⟩
  · exact hh.mono fun _ _ ⟨v, s, a, b, d⟩ => ⟨v, s, a, b, hk _ _ d⟩
  · exact RoundIn.mono hh fun _ _ ⟨v, s, a, b, d⟩ => ⟨v, s, a, b, hk _ _ d⟩
theorem FnV_mono {g : Value} {args : Array Value} {K K' : Value → St → Prop} (hk : ∀ v σ', K v σ' → K' v σ') (h : FnV P B g args σ K) : FnV P B g args σ K' := by
  unfold FnV at h ⊢
  split at h <;> first | contradiction | skip
  · exact h.mono hk
  · obtain ⟨r, h1, h2, h3⟩ := h
    exact ⟨r, h1, h2, fun w hw => RoundIn.mono (h3 w hw) fun _ _ ⟨v, s, a, b, d⟩ => ⟨v, s, a, b, hk _ _ d⟩⟩
theorem mkS_mono {t : TypeId} {l c : Value} {K K' : Value → St → Prop} (hk : ∀ v σ', K v σ' → K' v σ') (h : mkS P t l c σ K) : mkS P t l c σ K' := by
  unfold mkS at h ⊢
  split at h <;> first | contradiction | skip
  exact ⟨h.1, bindK_mono (fun _ => hk _ _) h.2⟩
theorem bsl_mono {t : TypeId} {n : Nat} {parts : List (Nat × Value)} {K K' : Value → St → Prop} (hk : ∀ v σ', K v σ' → K' v σ') (h : bsl P t n parts σ K) : bsl P t n parts σ K' := by
  unfold bsl at h ⊢
  exact bindK_mono (fun _ => bindK_mono fun _ ⟨h1, h2⟩ => ⟨h1, bindK_mono (fun _ => hk _ _) h2⟩) h
theorem appS_mono {t xt : TypeId} {a x : Value} {K K' : Value → St → Prop} (hk : ∀ v σ', K v σ' → K' v σ') (h : appS P B σ t xt a x K) : appS P B σ t xt a x K' := by
  obtain ⟨base, len, cap, e, s, b, n, ys, z, h1, h2, h3, h4, h5, h6, h7, h8, h9, h10⟩ := h
  refine ⟨base, len, cap, e, s, b, n, ys, z, h1, h2, h3, h4, h5, h6, h7, h8, fun hm => ?_, fun hm => ?_⟩
  · obtain ⟨σ', q, k⟩ := h9 hm; exact ⟨σ', q, hk _ _ k⟩
  · obtain ⟨q, old, q2, k⟩ := h10 hm; exact ⟨q, old, q2, fun nc hnc => hk _ _ (k nc hnc)⟩
theorem effS_mono {p : Op} {ty : TypeId} {ρ : Operand → Value} {K K' : Value → St → Prop} (hk : ∀ v σ', K v σ' → K' v σ') (h : effS P B p ty ρ σ K) : effS P B p ty ρ σ K' := by
  unfold effS at h ⊢
  split at h
  · exact bindK_mono (fun _ => hk _ _) h
  · exact bindK_mono (fun _ => hk _ _) h
  · exact hk _ _ h
  · exact mkS_mono hk h
  · exact bsl_mono hk h
  · exact bindK_mono (fun _ => hk _ _) h
  · exact hk _ _ h
  · split at h
    · exact FnV_mono hk h
    · exact ⟨h.1, appS_mono hk h.2⟩
    · exact fun w hw => NextR_mono hk (h w hw)
  · exact fun w hw => NextR_mono hk (h w hw)
theorem opS_mono {o : Oper} {K K' : Fr → St → Prop} {e : Fr} (hk : ∀ e σ', K e σ' → K' e σ') (h : opS P B o K e σ) : opS P B o K' e σ := by
  unfold opS at h ⊢
  split at h
  · obtain ⟨v, q, k⟩ := h; exact ⟨v, q, hk _ _ k⟩
  · split at h
    · split at h <;> first | contradiction | skip
      obtain ⟨v, q, k⟩ := h; exact ⟨v, q, hk _ _ k⟩
    · exact effS_mono (fun _ _ => hk _ _) h
theorem runL_mono {ops : Array Oper} {K K' : Fr → St → Prop} (hk : ∀ e σ', K e σ' → K' e σ') : ∀ (l : List Oper) (e : Fr) (σ : St), runL P B ops l K e σ → runL P B ops l K' e σ
  | [], e, σ, h => hk _ _ h
  | o :: l, e, σ, h => ⟨fun hg => opS_mono (fun e' σ' => runL_mono hk l e' σ') (h.1 hg), fun hg => runL_mono hk l _ _ (h.2 hg)⟩
theorem upto_mono {c : Bool} {X X' : St → Prop} (hx : ∀ σ, X σ → X' σ) (h : upto c σ X) : upto c σ X' := by
  cases c with
  | true => exact fun m hm => hx _ (h m hm)
  | false => exact hx _ h
theorem atS_mono {ops : Array Oper} {X X' : Fr → St → Prop} (hx : ∀ e σ', X e σ' → X' e σ') {e : Fr} : ∀ (l : List Oper) (i : Nat), atS P B i ops l X e σ → atS P B i ops l X' e σ
  | [], _, h => (by simp [atS] at h)
  | o :: l, 0, h => ⟨fun hg => opS_mono hx (h.1 hg), fun hg => hx _ _ (h.2 hg)⟩
  | o :: l, i + 1, h => by
    have := atS_mono hx l i (by simpa [atS] using h)
    simpa [atS] using this
theorem AnyS_mono {ops : Array Oper} {K K' : Fr → St → Prop} (hk : ∀ e σ', K e σ' → K' e σ') {e : Fr} (h : AnyS P B ops K e σ) : AnyS P B ops K' e σ :=
  fun r n id Q a w hm hD hdst ha hw hn => h r n id Q a w hm hD hdst ha hw fun a' e' σ' w' h1 h2 h3 => hn a' e' σ' w' h1 h2 (hk _ _ h3)
theorem effD_mono {ops : Array Oper} {i : Nat} {o : Oper} {rest : List Oper} {K K' : Fr → St → Prop} (hk : ∀ e σ', K e σ' → K' e σ') {Z Z' : DC → Fr → St → Prop} (hz : ∀ c e σ', Z c e σ' → Z' c e σ') {c : DC} {e : Fr}
    (h : effD P B ops i o rest K Z c e σ) : effD P B ops i o rest K' Z' c e σ := by
  rcases h with ⟨h1, h2⟩ | ⟨h1, h2⟩ | ⟨h1, v, h2, h3⟩ | ⟨h1, h2⟩
  · exact .inl ⟨h1, upto_mono (fun σ => runL_mono hk _ _ σ) h2⟩
  · exact .inr (.inl ⟨h1, upto_mono (fun σ => opS_mono (fun e' σ' => hz _ e' σ')) h2⟩)
  · exact .inr (.inr (.inl ⟨h1, v, h2, hz _ _ _ h3⟩))
  · exact .inr (.inr (.inr ⟨h1, AnyS_mono hk h2⟩))
theorem runD_mono {ops : Array Oper} {K K' : Fr → St → Prop} (hk : ∀ e σ', K e σ' → K' e σ') : ∀ (l : List Oper) (i : Nat) (c : DC) (e : Fr) (σ : St), runD P B ops i l K c e σ → runD P B ops i l K' c e σ
  | [], i, c, e, σ, h => upto_mono (fun σ => hk e σ) h
  | o :: l, i, c, e, σ, h => by
    simp only [runD] at h ⊢
    refine ⟨fun hg => ?_, fun hg => runD_mono hk l (i + 1) c _ σ (h.2 hg)⟩
    have h1 := h.1 hg
    unfold opX at h1 ⊢
    split at h1
    · obtain ⟨v, hv, hr⟩ := h1
      exact ⟨v, hv, runD_mono hk l (i + 1) c _ σ hr⟩
    · exact effD_mono hk (fun c' e' σ' => runD_mono hk l (i + 1) c' e' σ') h1
/-- Behind a region that draws its order just 'J' is kept. -/
theorem effD_mid {ops : Array Oper} {i i' : Nat} {o : Oper} {rest : List Oper} {K : Fr → St → Prop} (J : Fr → St → Prop) {c : DC} {e : Fr} (h : effD P B ops i o rest J (runD P B ops i' rest J) c e σ) (hJ : ∀ e σ', J e σ' → K e σ') :
    effD P B ops i o rest K (runD P B ops i' rest K) c e σ := effD_mono hJ (fun c' e' σ' => runD_mono hJ rest i' c' e' σ') h
/-- Behind operations in the text's order just 'J' is kept. -/
theorem runL_mid {ops : Array Oper} {l : List Oper} {K : Fr → St → Prop} (J : Fr → St → Prop) {e : Fr} (h : runL P B ops l J e σ) (hJ : ∀ e σ', J e σ' → K e σ') : runL P B ops l K e σ := runL_mono hJ l e σ h
end
end Go.Proofs.YtdbgeahmhfocaaaGreat
