/- The rules by which 'simp' walks a body: each rewrites at its head and leaves what is still to be done alone. -/
import Derived.Test.YtdbgeahmhfocaaaGreatEngH
namespace Go.Proofs.YtdbgeahmhfocaaaGreat
set_option linter.unusedSimpArgs false
set_option linter.unusedVariables false
open Go Go.RowKit

theorem bytes_loop (bs : ByteArray) : ∀ (k i : Nat) (r : List UInt8), bs.size - i = k → ByteArray.toList.loop bs i r = r.reverse ++ bs.data.toList.drop i := by
  intro k
  induction k with
  | zero =>
    intro i r h
    unfold ByteArray.toList.loop
    have : ¬ i < bs.size := by omega
    rw [if_neg this]
    have : bs.data.toList.length ≤ i := by simp; show bs.size ≤ i; omega
    simp [List.drop_eq_nil_of_le this]
  | succ k ih =>
    intro i r h
    unfold ByteArray.toList.loop
    have hlt : i < bs.size := by omega
    rw [if_pos hlt, ih (i+1) _ (by omega)]
    have hl : i < bs.data.toList.length := by simpa using hlt
    rw [List.drop_eq_getElem_cons hl]
    simp [ByteArray.get!]
    have : bs.data[i]! = bs.data[i]'hlt := by rw [getElem!_pos]
    simpa using this
theorem bytes_toList (bs : ByteArray) : bs.toList = bs.data.toList := by
  unfold ByteArray.toList
  rw [bytes_loop bs _ 0 [] rfl]; simp

def seqV (v : Value) (d : Option Tmp) (K : Fr → St → Prop) (e : Fr) (σ : St) : Prop := K (e.put d v) σ
def vc (v : Value) : Array Value := v.cells
def fl (place : Nat → Option (Nat × Nat)) (cells : Array Value) (l : List (Nat × Value)) : Option (Array Value) := Instr.fill place cells l
/-- A block of one value's cells is new: its address goes into the slot. -/
def newK (σ : St) (v : Value) (t : TypeId) (d : Option Tmp) (K : Fr → St → Prop) (e : Fr) : Prop := K (e.put d (.pointer (some ⟨σ.n, 0, none⟩))) ((σ.set σ.n (.raw (.cells (vc v) t (0, 0)))).up (σ.n + 1))
def newO (z : Option Value) (σ : St) (t : TypeId) (d : Option Tmp) (K : Fr → St → Prop) (e : Fr) : Prop := ∃ v, z = some v ∧ newK σ v t d K e
/-- A call: its contract is wanted. -/
def callK (P : Program) (B : World) (g : Value) (args : Array Value) (d : Option Tmp) (K : Fr → St → Prop) (e : Fr) (σ : St) : Prop := FnV P B g args σ fun v σ' => K (e.put d v) σ'
def mkK (P : Program) (t : TypeId) (l c : Value) (d : Option Tmp) (K : Fr → St → Prop) (e : Fr) (σ : St) : Prop := mkS P t l c σ fun v σ' => K (e.put d v) σ'
def bslK (P : Program) (t : TypeId) (n : Nat) (parts : List (Nat × Value)) (d : Option Tmp) (K : Fr → St → Prop) (e : Fr) (σ : St) : Prop := bsl P t n parts σ fun v σ' => K (e.put d v) σ'
def appK (P : Program) (B : World) (t xt : TypeId) (a x : Value) (d : Option Tmp) (K : Fr → St → Prop) (e : Fr) (σ : St) : Prop := appS P B σ t xt a x fun v σ' => K (e.put d v) σ'
attribute [go_sem] if_true if_false ite_true ite_false decide_true decide_false Bool.not_true Bool.not_false Bool.not_not Bool.true_and Bool.false_and Bool.and_true Bool.and_false Bool.true_or Bool.false_or Bool.or_true Bool.or_false
  Option.map_some Option.map_none Option.bind_some Option.bind_none List.map_cons List.map_nil List.nil_append List.cons_append List.append_nil List.append_toArray Array.empty_append Array.append_empty List.size_toArray List.length_cons List.length_nil
  List.all_cons List.all_nil and_true true_and and_self and_false false_and or_true true_or or_false false_or not_true_eq_false not_false_eq_true ne_eq eq_self Option.isNone_none Option.isNone_some Option.isSome_none Option.isSome_some
  List.setIfInBounds_toArray List.set_cons_zero List.set_cons_succ List.getElem?_toArray List.getElem?_cons_zero List.getElem?_cons_succ List.toList_toArray Array.size_setIfInBounds
  beq_self_eq_true bne_self_eq_false Nat.zero_add Nat.add_zero Int.toNat_zero reduceCtorEq Option.some_beq_some
attribute [go_sem] bindK_some bindK_none ev_tmp ev_const ev_global ev_func put_none put_same put_ne put_d
  thenQ_normal thenQ_ret thenQ_exit blockQ_normal blockQ_ret blockQ_exit noGotoQ_normal noGotoQ_ret noGotoQ_exit
attribute [go_sem low] St.set_m_ne St.new_m_ne

section
variable {P : Program} {B : World} {r : Option Nat} {n : Nat} {Q : Exit → Fr → St → Prop} {e : Fr} {σ : St}

@[go_sem ↓] theorem wpS_skip : wpS P B r n .skip Q e σ = Q .normal e σ := rfl
@[go_sem ↓] theorem wpS_label {l : Nat} : wpS P B r n (.label l) Q e σ = Q .normal e σ := rfl
@[go_sem ↓] theorem wpS_region {id : Nat} {l : List Oper} : wpS P B r n (.region id l.toArray false) Q e σ = runL P B l.toArray l (Q .normal) e σ := rfl
@[go_sem ↓] theorem wpS_region_draw {id : Nat} {l : List Oper} : wpS P B r n (.region id l.toArray true) Q e σ = runD P B l.toArray 0 l (Q .normal) ⟨hasCall l, true, e⟩ e σ := rfl
@[go_sem ↓] theorem wpS_seq {x y : Code} : wpS P B r n (.seq x y) Q e σ = wpS P B r n x (thenQ (wpS P B r n y Q) Q) e σ := rfl
@[go_sem ↓] theorem wpS_cond {c : Operand} {x y : Code} : wpS P B r n (.cond c x y) Q e σ = brV (ev e c) (wpS P B r n x Q) (wpS P B r n y Q) e σ := rfl
@[go_sem ↓] theorem wpS_block {id : Nat} {c : Code} : wpS P B r n (.block id c) Q e σ = wpS P B r n c (blockQ id Q) e σ := rfl
@[go_sem ↓] theorem wpS_exit {id : Nat} : wpS P B r n (.exit id) Q e σ = Q (.exit id) e σ := rfl
@[go_sem ↓] theorem wpS_ret : wpS P B r n .ret Q e σ = Q .ret e σ := rfl
@[go_sem ↓] theorem wpS_loop {c : Code} : wpS P B r n (.loop c) Q e σ = LoopS P B r n c Q e σ := rfl
@[go_sem ↓] theorem wpS_range {g : Operand} {ps : Array Tmp} {x y : Code} : wpS P B r n (.rangeFunc g ps x y) Q e σ = RangeS P B r n g ps x y Q e σ := rfl
@[go_sem ↓] theorem wpS_scope {c : Code} : wpS P B none n (.scope c) Q e σ = wpS P B none n c (noGotoQ Q) e σ := rfl

variable {x y : Fr → St → Prop} {X Y : DC → Fr → St → Prop} {c : DC} {K : Fr → St → Prop} {d : Option Tmp}
@[go_sem] theorem brS_true : brS true x y e σ = x e σ := by simp [brS]
@[go_sem] theorem brS_false : brS false x y e σ = y e σ := by simp [brS]
@[go_sem] theorem brS_not {b : Bool} : brS (!b) x y e σ = brS b y x e σ := by cases b <;> simp [brS]
@[go_sem] theorem brV_bool {b : Bool} : brV (.bool b) x y e σ = brS b x y e σ := rfl
@[go_sem] theorem brX_true : brX true X Y c e σ = X c e σ := by simp [brX]
@[go_sem] theorem brX_false : brX false X Y c e σ = Y c e σ := by simp [brX]
/-- A branch that arithmetic decides. -/
@[go_sem] theorem brS_dec_true {q : Prop} [Decidable q] (h : q) : brS (decide q) x y e σ = x e σ := by simp [brS, h]
@[go_sem] theorem brS_dec_false {q : Prop} [Decidable q] (h : ¬ q) : brS (decide q) x y e σ = y e σ := by simp [brS, h]
/-- A branch that is not decided yet. -/
theorem brS_dec {q : Prop} [Decidable q] (h : q → x e σ) (h' : ¬ q → y e σ) : brS (decide q) x y e σ := ⟨fun e => h (of_decide_eq_true e), fun e => h' (of_decide_eq_false e)⟩
theorem brS_bool {b : Bool} (h : b = true → x e σ) (h' : b = false → y e σ) : brS b x y e σ := ⟨h, h'⟩
theorem brX_dec {q : Prop} [Decidable q] (h : q → X c e σ) (h' : ¬ q → Y c e σ) : brX (decide q) X Y c e σ := ⟨fun e => h (of_decide_eq_true e), fun e => h' (of_decide_eq_false e)⟩
theorem brX_bool {b : Bool} (h : b = true → X c e σ) (h' : b = false → Y c e σ) : brX b X Y c e σ := ⟨h, h'⟩
@[go_sem] theorem stepQ_some {v : Value} : stepQ (some v) d K e σ = K (e.put d v) σ := by simp [stepQ]
@[go_sem] theorem stepX_some {v : Value} : stepX (some v) d X c e σ = X c (e.put d v) σ := by simp [stepX]
@[go_sem] theorem stepS_some {σ' : St} : stepS (some σ') d K e = K (e.put d undef) σ' := by simp [stepS]
@[go_sem] theorem stepD_some {y : Deferred} : stepD (some y) d K e σ = K (({ e with d := y :: e.d } : Fr).put d undef) σ := by simp [stepD]
@[go_sem] theorem skipK_eq : skipK d K e σ = K (e.put d undef) σ := rfl
@[go_sem] theorem skipX_eq : skipX d X c e σ = X c (e.put d undef) σ := rfl
@[go_sem] theorem newO_some {v : Value} {t : TypeId} : newO (some v) σ t d K e = newK σ v t d K e := by simp [newO]
@[go_sem] theorem newK_eq {v : Value} {t : TypeId} : newK σ v t d K e = K (e.put d (.pointer (some ⟨σ.n, 0, none⟩))) ((σ.set σ.n (.raw (.cells (vc v) t (0, 0)))).up (σ.n + 1)) := rfl
theorem iteP {α : Type} {q : Prop} [Decidable q] {a b : α} (h : q) : (if q then a else b) = a := if_pos h
theorem iteN {α : Type} {q : Prop} [Decidable q] {a b : α} (h : ¬ q) : (if q then a else b) = b := if_neg h
attribute [go_sem] iteP iteN
theorem stepQ_if_pos {q : Prop} [Decidable q] {a b : Option Value} (h : q) : stepQ (if q then a else b) d K e σ = stepQ a d K e σ := by rw [if_pos h]
theorem stepQ_if_neg {q : Prop} [Decidable q] {a b : Option Value} (h : ¬ q) : stepQ (if q then a else b) d K e σ = stepQ b d K e σ := by rw [if_neg h]
theorem stepX_if_pos {q : Prop} [Decidable q] {a b : Option Value} (h : q) : stepX (if q then a else b) d X c e σ = stepX a d X c e σ := by rw [if_pos h]
theorem stepX_if_neg {q : Prop} [Decidable q] {a b : Option Value} (h : ¬ q) : stepX (if q then a else b) d X c e σ = stepX b d X c e σ := by rw [if_neg h]
theorem stepS_if_pos {q : Prop} [Decidable q] {a b : Option St} (h : q) : stepS (if q then a else b) d K e = stepS a d K e := by rw [if_pos h]
attribute [go_sem] stepQ_if_pos stepQ_if_neg stepX_if_pos stepX_if_neg stepS_if_pos

/-- A condition that arithmetic decides. -/
theorem bindK_if_pos {α : Type} {q : Prop} [Decidable q] {x y : Option α} {K : α → Prop} (h : q) : bindK (if q then x else y) K = bindK x K := by rw [if_pos h]
theorem bindK_if_neg {α : Type} {q : Prop} [Decidable q] {x y : Option α} {K : α → Prop} (h : ¬ q) : bindK (if q then x else y) K = bindK y K := by rw [if_neg h]
attribute [go_sem] bindK_if_pos bindK_if_neg

/-! ### Lists of operations -/
variable {ops : Array Oper} {rest : List Oper} {p : Op} {ty : TypeId} {pos : String} {af : Array Edge}

@[go_sem ↓] theorem runL_nil : runL P B ops [] K e σ = K e σ := rfl
@[go_sem ↓] theorem runL_none : runL P B ops (⟨d, p, ty, pos, af, none⟩ :: rest) K e σ = opS P B ⟨d, p, ty, pos, af, none⟩ (runL P B ops rest K) e σ := by
  show brS true _ _ _ _ = _
  rw [brS_true]
@[go_sem ↓] theorem runL_some {g : Nat × Bool} : runL P B ops (⟨d, p, ty, pos, af, some g⟩ :: rest) K e σ =
    brS (gd ops ⟨d, p, ty, pos, af, some g⟩ e) (opS P B ⟨d, p, ty, pos, af, none⟩ (runL P B ops rest K)) (skipK d (runL P B ops rest K)) e σ := rfl

/-- The slot that the j-th operation writes. -/
def slotOf : List Oper → Nat → Option Tmp
  | [], _ => none
  | o :: _, 0 => o.dst
  | _ :: l, j + 1 => slotOf l j
theorem slotOf_eq : ∀ (l : List Oper) (j : Nat), slotOf l j = (l[j]?).bind (·.dst)
  | [], j => by simp [slotOf]
  | o :: l, 0 => by simp [slotOf]
  | o :: l, j + 1 => by simp [slotOf, slotOf_eq l j]
@[go_sem ↓] theorem slotOf_zero {g : Option (Nat × Bool)} : slotOf (⟨d, p, ty, pos, af, g⟩ :: rest) 0 = d := rfl
@[go_sem ↓] theorem slotOf_succ {o : Oper} {j : Nat} : slotOf (o :: rest) (j + 1) = slotOf rest j := rfl
def gdV (s : Option Tmp) (want : Bool) (e : Fr) : Bool := match s with | some t => boolOf (e.v t) == some want | none => false
@[go_sem ↓] theorem gd_some {l : List Oper} {j : Nat} {want : Bool} : gd l.toArray ⟨d, p, ty, pos, af, some (j, want)⟩ e = gdV (slotOf l j) want e := by
  simp only [gd, slotOf_eq, List.getElem?_toArray, gdV]
  rfl
@[go_sem] theorem gdV_some {t : Tmp} {want : Bool} : gdV (some t) want e = (boolOf (e.v t) == some want) := rfl
@[go_sem] theorem boolOf_bool {b : Bool} : boolOf (.bool b) = some b := rfl

variable {i : Nat} {rn c0 : Bool} {e0 : Fr}
@[go_sem ↓] theorem runD_nil_false : runD P B ops i [] K ⟨false, rn, e0⟩ e σ = K e σ := rfl
@[go_sem ↓] theorem runD_nil_true : runD P B ops i [] K ⟨true, rn, e0⟩ e σ = ∀ m, σ.n ≤ m → K e (σ.up m) := rfl
@[go_sem ↓] theorem runD_none : runD P B ops i (⟨d, p, ty, pos, af, none⟩ :: rest) K c e σ = opX P B ops i ⟨d, p, ty, pos, af, none⟩ rest K (runD P B ops (i + 1) rest K) c e σ := by
  show brX true _ _ _ _ _ = _
  rw [brX_true]
@[go_sem ↓] theorem runD_some {g : Nat × Bool} : runD P B ops i (⟨d, p, ty, pos, af, some g⟩ :: rest) K c e σ =
    brX (gd ops ⟨d, p, ty, pos, af, some g⟩ e) (opX P B ops i ⟨d, p, ty, pos, af, some g⟩ rest K (runD P B ops (i + 1) rest K)) (skipX d (runD P B ops (i + 1) rest K)) c e σ := rfl
def callOp : Op → Bool
  | .call ⟨.value _, _, _⟩ => true
  | _ => false
@[go_sem ↓] theorem hasCall_nil : hasCall [] = false := rfl
@[go_sem ↓] theorem hasCall_cons {g : Option (Nat × Bool)} : hasCall (⟨d, p, ty, pos, af, g⟩ :: rest) = (callOp p || hasCall rest) := by
  cases p <;> rfl
attribute [go_sem] callOp

/-! ### Operations -/
@[go_sem ↓] theorem opS_move {x : Operand} : opS P B ⟨d, .move x, ty, pos, af, none⟩ K e σ = stepQ (some (ev e x)) d K e σ := rfl
@[go_sem ↓] theorem opX_move {x : Operand} {g : Option (Nat × Bool)} : opX P B ops i ⟨d, .move x, ty, pos, af, g⟩ rest K X c e σ = stepX (some (ev e x)) d X c e σ := rfl
@[go_sem ↓] theorem opS_assign {x : Operand} : opS P B ⟨d, .assign x, ty, pos, af, none⟩ K e σ = stepQ (some (ev e x)) d K e σ := rfl
@[go_sem ↓] theorem opX_assign {x : Operand} {g : Option (Nat × Bool)} : opX P B ops i ⟨d, .assign x, ty, pos, af, g⟩ rest K X c e σ = stepX (some (ev e x)) d X c e σ := rfl
def pickV (c a b : Value) : Option Value := match c with | .bool t => some (if t then a else b) | _ => none
@[go_sem] theorem pickV_bool {t : Bool} {a b : Value} : pickV (.bool t) a b = some (if t then a else b) := rfl
@[go_sem ↓] theorem opS_pick {x a b : Operand} : opS P B ⟨d, .pick x a b, ty, pos, af, none⟩ K e σ = stepQ (pickV (ev e x) (ev e a) (ev e b)) d K e σ := rfl
@[go_sem ↓] theorem opX_pick {x a b : Operand} {g : Option (Nat × Bool)} : opX P B ops i ⟨d, .pick x a b, ty, pos, af, g⟩ rest K X c e σ = stepX (pickV (ev e x) (ev e a) (ev e b)) d X c e σ := rfl
@[go_sem ↓] theorem opS_nilCheck {x : Operand} : opS P B ⟨d, .nilCheck x, ty, pos, af, none⟩ K e σ = stepQ (nck (ev e x)) d K e σ := rfl
@[go_sem ↓] theorem opX_nilCheck {x : Operand} {g : Option (Nat × Bool)} : opX P B ops i ⟨d, .nilCheck x, ty, pos, af, g⟩ rest K X c e σ = stepX (nck (ev e x)) d X c e σ := rfl
@[go_sem ↓] theorem opS_binOp {op : BinOp} {t u : TypeId} {x y : Operand} : opS P B ⟨d, .binOp op t x y u, ty, pos, af, none⟩ K e σ = stepQ (bin P op t (ev e x) (ev e y)) d K e σ := rfl
@[go_sem ↓] theorem opX_binOp {op : BinOp} {t u : TypeId} {x y : Operand} {g : Option (Nat × Bool)} : opX P B ops i ⟨d, .binOp op t x y u, ty, pos, af, g⟩ rest K X c e σ = stepX (bin P op t (ev e x) (ev e y)) d X c e σ := rfl
@[go_sem ↓] theorem opS_unOp {op : UnOp} {t : TypeId} {x : Operand} : opS P B ⟨d, .unOp op t x, ty, pos, af, none⟩ K e σ = stepQ (un op (ev e x)) d K e σ := rfl
@[go_sem ↓] theorem opX_unOp {op : UnOp} {t : TypeId} {x : Operand} {g : Option (Nat × Bool)} : opX P B ops i ⟨d, .unOp op t x, ty, pos, af, g⟩ rest K X c e σ = stepX (un op (ev e x)) d X c e σ := rfl
@[go_sem ↓] theorem opS_convert {s t : TypeId} {x : Operand} : opS P B ⟨d, .convert s t x, ty, pos, af, none⟩ K e σ = stepQ (cv P s t (ev e x)) d K e σ := rfl
@[go_sem ↓] theorem opX_convert {s t : TypeId} {x : Operand} {g : Option (Nat × Bool)} : opX P B ops i ⟨d, .convert s t x, ty, pos, af, g⟩ rest K X c e σ = stepX (cv P s t (ev e x)) d X c e σ := rfl
def fad (x : Value) (o : Option Nat) : Option Value := match x, o with | .pointer (some a), some o => some (.pointer (some (a.add o))) | _, _ => none
@[go_sem] theorem fad_some {b o k : Nat} : fad (.pointer (some ⟨b, o, none⟩)) (some k) = some (.pointer (some ⟨b, o + k, none⟩)) := by simp [fad, add_none]
@[go_sem ↓] theorem opS_fieldAddr {s f : Nat} {x : Operand} : opS P B ⟨d, .fieldAddr s x f, ty, pos, af, none⟩ K e σ = stepQ (fad (ev e x) (fo P s f)) d K e σ := rfl
@[go_sem ↓] theorem opX_fieldAddr {s f : Nat} {x : Operand} {g : Option (Nat × Bool)} : opX P B ops i ⟨d, .fieldAddr s x f, ty, pos, af, g⟩ rest K X c e σ = stepX (fad (ev e x) (fo P s f)) d X c e σ := rfl
@[go_sem ↓] theorem opS_field {t f : Nat} {x : Operand} : opS P B ⟨d, .field t x f, ty, pos, af, none⟩ K e σ = stepQ (fld P t f (ev e x)) d K e σ := rfl
@[go_sem ↓] theorem opX_field {t f : Nat} {x : Operand} {g : Option (Nat × Bool)} : opX P B ops i ⟨d, .field t x f, ty, pos, af, g⟩ rest K X c e σ = stepX (fld P t f (ev e x)) d X c e σ := rfl
@[go_sem ↓] theorem opS_indexAddr {t : Nat} {x y : Operand} : opS P B ⟨d, .indexAddr t x y, ty, pos, af, none⟩ K e σ = stepQ (ixa P t (ev e x) (ev e y)) d K e σ := rfl
@[go_sem ↓] theorem opX_indexAddr {t : Nat} {x y : Operand} {g : Option (Nat × Bool)} : opX P B ops i ⟨d, .indexAddr t x y, ty, pos, af, g⟩ rest K X c e σ = stepX (ixa P t (ev e x) (ev e y)) d X c e σ := rfl
@[go_sem ↓] theorem opS_index {t : Nat} {x y : Operand} : opS P B ⟨d, .index t x y, ty, pos, af, none⟩ K e σ = stepQ (ixv P t (ev e x) (ev e y)) d K e σ := rfl
@[go_sem ↓] theorem opX_index {t : Nat} {x y : Operand} {g : Option (Nat × Bool)} : opX P B ops i ⟨d, .index t x y, ty, pos, af, g⟩ rest K X c e σ = stepX (ixv P t (ev e x) (ev e y)) d X c e σ := rfl
def extV (x : Value) (i : Nat) : Option Value := match x with | .tuple vs => vs[i]? | _ => none
@[go_sem] theorem extV_tuple {vs : Array Value} {i : Nat} : extV (.tuple vs) i = vs[i]? := rfl
@[go_sem ↓] theorem opS_extract {x : Operand} {j : Nat} : opS P B ⟨d, .extract x j, ty, pos, af, none⟩ K e σ = stepQ (extV (ev e x) j) d K e σ := rfl
@[go_sem ↓] theorem opX_extract {x : Operand} {j : Nat} {g : Option (Nat × Bool)} : opX P B ops i ⟨d, .extract x j, ty, pos, af, g⟩ rest K X c e σ = stepX (extV (ev e x) j) d X c e σ := rfl
@[go_sem ↓] theorem opS_slice {t : Nat} {x : Operand} {lo hi mx : Option Operand} : opS P B ⟨d, .slice t x lo hi mx, ty, pos, af, none⟩ K e σ = stepQ (slc P t (ev e x) (lo.map (ev e)) (hi.map (ev e)) (mx.map (ev e))) d K e σ := rfl
@[go_sem ↓] theorem opX_slice {t : Nat} {x : Operand} {lo hi mx : Option Operand} {g : Option (Nat × Bool)} : opX P B ops i ⟨d, .slice t x lo hi mx, ty, pos, af, g⟩ rest K X c e σ = stepX (slc P t (ev e x) (lo.map (ev e)) (hi.map (ev e)) (mx.map (ev e))) d X c e σ := rfl
/-- A load through a pointer. -/
def ldp (P : Program) (B : World) (σ : St) (t : TypeId) (x : Value) : Option Value := match x with | .pointer (some a) => ldv P B σ t a | _ => none
@[go_sem ↓] theorem opS_load {t : Nat} {x : Operand} : opS P B ⟨d, .load t x, ty, pos, af, none⟩ K e σ = stepQ (ldp P B σ t (ev e x)) d K e σ := rfl
@[go_sem ↓] theorem opX_load {t : Nat} {x : Operand} {g : Option (Nat × Bool)} : opX P B ops i ⟨d, .load t x, ty, pos, af, g⟩ rest K X c e σ = stepX (ldp P B σ t (ev e x)) d X c e σ := rfl
@[go_sem ↓] theorem opS_makeFunc {fn : Go.Fn} {first cap : List Operand} : opS P B ⟨d, .makeFunc fn first.toArray cap.toArray, ty, pos, af, none⟩ K e σ = stepQ (some (.func fn (first.map (ev e)).toArray (cap.map (ev e)).toArray)) d K e σ := by
  simp [opS, isQ, qv]
@[go_sem ↓] theorem opX_makeFunc {fn : Go.Fn} {first cap : List Operand} {g : Option (Nat × Bool)} : opX P B ops i ⟨d, .makeFunc fn first.toArray cap.toArray, ty, pos, af, g⟩ rest K X c e σ = stepX (some (.func fn (first.map (ev e)).toArray (cap.map (ev e)).toArray)) d X c e σ := by
  simp [opX, isQ, qv]
@[go_sem ↓] theorem opS_build {t : Nat} {parts : List (Nat × Operand)} : opS P B ⟨d, .build t parts.toArray, ty, pos, af, none⟩ K e σ = stepQ (bld P t (parts.map fun (i, x) => (i, ev e x))) d K e σ := by
  simp [opS, isQ, qv]
@[go_sem ↓] theorem opX_build {t : Nat} {parts : List (Nat × Operand)} {g : Option (Nat × Bool)} : opX P B ops i ⟨d, .build t parts.toArray, ty, pos, af, g⟩ rest K X c e σ = stepX (bld P t (parts.map fun (i, x) => (i, ev e x))) d X c e σ := by
  simp [opX, isQ, qv]
@[go_sem ↓] theorem opS_makeInterface {t : Nat} {x : Operand} : opS P B ⟨d, .makeInterface t x, ty, pos, af, none⟩ K e σ = stepQ (if plainKd (kd P t) then some (.iface t (ev e x)) else none) d K e σ := rfl
@[go_sem ↓] theorem opX_makeInterface {t : Nat} {x : Operand} {g : Option (Nat × Bool)} : opX P B ops i ⟨d, .makeInterface t x, ty, pos, af, g⟩ rest K X c e σ = stepX (if plainKd (kd P t) then some (.iface t (ev e x)) else none) d X c e σ := rfl
@[go_sem ↓] theorem opS_lookup {t : Nat} {x y : Operand} {ok : Bool} : opS P B ⟨d, .lookup t x y ok, ty, pos, af, none⟩ K e σ = stepQ (lk P σ t (ev e x) (ev e y) ok) d K e σ := rfl
@[go_sem ↓] theorem opX_lookup {t : Nat} {x y : Operand} {ok : Bool} {g : Option (Nat × Bool)} : opX P B ops i ⟨d, .lookup t x y ok, ty, pos, af, g⟩ rest K X c e σ = stepX (lk P σ t (ev e x) (ev e y) ok) d X c e σ := rfl
@[go_sem ↓] theorem opS_len {as : List Operand} {ts : List TypeId} : opS P B ⟨d, .call ⟨.builtin .len, as.toArray, ts.toArray⟩, ty, pos, af, none⟩ K e σ = stepQ (bi P σ .len ts.toArray (as.map (ev e))) d K e σ := rfl
@[go_sem ↓] theorem opX_len {as : List Operand} {ts : List TypeId} {g : Option (Nat × Bool)} : opX P B ops i ⟨d, .call ⟨.builtin .len, as.toArray, ts.toArray⟩, ty, pos, af, g⟩ rest K X c e σ = stepX (bi P σ .len ts.toArray (as.map (ev e))) d X c e σ := rfl
@[go_sem ↓] theorem opS_cap {as : List Operand} {ts : List TypeId} : opS P B ⟨d, .call ⟨.builtin .cap, as.toArray, ts.toArray⟩, ty, pos, af, none⟩ K e σ = stepQ (bi P σ .cap ts.toArray (as.map (ev e))) d K e σ := rfl
@[go_sem ↓] theorem opX_cap {as : List Operand} {ts : List TypeId} {g : Option (Nat × Bool)} : opX P B ops i ⟨d, .call ⟨.builtin .cap, as.toArray, ts.toArray⟩, ty, pos, af, g⟩ rest K X c e σ = stepX (bi P σ .cap ts.toArray (as.map (ev e))) d X c e σ := rfl
@[go_sem ↓] theorem opS_max {as : List Operand} {ts : List TypeId} : opS P B ⟨d, .call ⟨.builtin .max, as.toArray, ts.toArray⟩, ty, pos, af, none⟩ K e σ = stepQ (bi P σ .max ts.toArray (as.map (ev e))) d K e σ := rfl
@[go_sem ↓] theorem opX_max {as : List Operand} {ts : List TypeId} {g : Option (Nat × Bool)} : opX P B ops i ⟨d, .call ⟨.builtin .max, as.toArray, ts.toArray⟩, ty, pos, af, g⟩ rest K X c e σ = stepX (bi P σ .max ts.toArray (as.map (ev e))) d X c e σ := rfl
@[go_sem ↓] theorem opS_min {as : List Operand} {ts : List TypeId} : opS P B ⟨d, .call ⟨.builtin .min, as.toArray, ts.toArray⟩, ty, pos, af, none⟩ K e σ = stepQ (bi P σ .min ts.toArray (as.map (ev e))) d K e σ := rfl
@[go_sem ↓] theorem opX_min {as : List Operand} {ts : List TypeId} {g : Option (Nat × Bool)} : opX P B ops i ⟨d, .call ⟨.builtin .min, as.toArray, ts.toArray⟩, ty, pos, af, g⟩ rest K X c e σ = stepX (bi P σ .min ts.toArray (as.map (ev e))) d X c e σ := rfl
@[go_sem ↓] theorem opS_store {t : Nat} {x y : Operand} : opS P B ⟨d, .store t x y, ty, pos, af, none⟩ K e σ = stepS (stv P σ t (ev e x) (ev e y)) d K e := rfl
@[go_sem ↓] theorem opS_alloc {t : Nat} : opS P B ⟨d, .alloc t, ty, pos, af, none⟩ K e σ = newO (zr P t) σ t d K e := rfl
@[go_sem ↓] theorem opS_box {t : Nat} {x : Operand} : opS P B ⟨d, .box t x, ty, pos, af, none⟩ K e σ = newO (some (ev e x)) σ t d K e := by
  rw [newO_some]; rfl
@[go_sem ↓] theorem opS_makeSlice {t : Nat} {x y : Operand} : opS P B ⟨d, .makeSlice t x y, ty, pos, af, none⟩ K e σ = mkK P t (ev e x) (ev e y) d K e σ := rfl
@[go_sem ↓] theorem opS_buildSlice {t k : Nat} {parts : List (Nat × Operand)} : opS P B ⟨d, .buildSlice t k parts.toArray, ty, pos, af, none⟩ K e σ = bslK P t k (parts.map fun (i, x) => (i, ev e x)) d K e σ := by
  simp [opS, isQ, effS, bslK]
@[go_sem ↓] theorem opS_mapUpdate {t : Nat} {x y z : Operand} : opS P B ⟨d, .mapUpdate t x y z, ty, pos, af, none⟩ K e σ = stepS (mus P σ t (ev e x) (ev e y) (ev e z)) d K e := rfl
@[go_sem ↓] theorem opS_makeMap {t : Nat} : opS P B ⟨d, .makeMap t none, ty, pos, af, none⟩ K e σ = K (e.put d (.map (some σ.n))) ((σ.set σ.n (.raw (.map #[] 0))).up (σ.n + 1)) := rfl
@[go_sem ↓] theorem opX_mapUpdate {t : Nat} {x y z : Operand} {g : Option (Nat × Bool)} : opX P B ops i ⟨d, .mapUpdate t x y z, ty, pos, af, g⟩ rest K X c e σ = effD P B ops i ⟨d, .mapUpdate t x y z, ty, pos, af, g⟩ rest K X c e σ := rfl
@[go_sem ↓] theorem opX_makeMap {t : Nat} {g : Option (Nat × Bool)} : opX P B ops i ⟨d, .makeMap t none, ty, pos, af, g⟩ rest K X c e σ = effD P B ops i ⟨d, .makeMap t none, ty, pos, af, g⟩ rest K X c e σ := rfl
@[go_sem ↓] theorem opS_call {f : Operand} {as : List Operand} {ts : Array TypeId} : opS P B ⟨d, .call ⟨.value f, as.toArray, ts⟩, ty, pos, af, none⟩ K e σ = callK P B (ev e f) (as.map (ev e)).toArray d K e σ := by
  simp [opS, isQ, effS, callK]
@[go_sem ↓] theorem opS_append {a x : Operand} {t xt : TypeId} : opS P B ⟨d, .call ⟨.builtin .append, #[a, x], #[t, xt]⟩, ty, pos, af, none⟩ K e σ = appK P B t xt (ev e a) (ev e x) d K e σ := by
  simp [opS, isQ, effS, appK]
@[go_sem ↓] theorem opS_defer {f : Operand} {as : List Operand} {ts : Array TypeId} : opS P B ⟨d, .defer ⟨.value f, as.toArray, ts⟩, ty, pos, af, none⟩ K e σ = stepD (dfr (ev e f) (as.map (ev e)).toArray) d K e σ := by
  simp [opS, isQ]
/-- An effect in a region that draws: nothing is done yet. -/
@[go_sem ↓] theorem opX_store {t : Nat} {x y : Operand} {g : Option (Nat × Bool)} : opX P B ops i ⟨d, .store t x y, ty, pos, af, g⟩ rest K X c e σ = effD P B ops i ⟨d, .store t x y, ty, pos, af, g⟩ rest K X c e σ := rfl
@[go_sem ↓] theorem opX_alloc {t : Nat} {g : Option (Nat × Bool)} : opX P B ops i ⟨d, .alloc t, ty, pos, af, g⟩ rest K X c e σ = effD P B ops i ⟨d, .alloc t, ty, pos, af, g⟩ rest K X c e σ := rfl
@[go_sem ↓] theorem opX_box {t : Nat} {x : Operand} {g : Option (Nat × Bool)} : opX P B ops i ⟨d, .box t x, ty, pos, af, g⟩ rest K X c e σ = effD P B ops i ⟨d, .box t x, ty, pos, af, g⟩ rest K X c e σ := rfl
@[go_sem ↓] theorem opX_makeSlice {t : Nat} {x y : Operand} {g : Option (Nat × Bool)} : opX P B ops i ⟨d, .makeSlice t x y, ty, pos, af, g⟩ rest K X c e σ = effD P B ops i ⟨d, .makeSlice t x y, ty, pos, af, g⟩ rest K X c e σ := rfl
@[go_sem ↓] theorem opX_buildSlice {t k : Nat} {parts : Array (Nat × Operand)} {g : Option (Nat × Bool)} : opX P B ops i ⟨d, .buildSlice t k parts, ty, pos, af, g⟩ rest K X c e σ = effD P B ops i ⟨d, .buildSlice t k parts, ty, pos, af, g⟩ rest K X c e σ := rfl
@[go_sem ↓] theorem opX_call {f : Operand} {as : Array Operand} {ts : Array TypeId} {g : Option (Nat × Bool)} : opX P B ops i ⟨d, .call ⟨.value f, as, ts⟩, ty, pos, af, g⟩ rest K X c e σ = effD P B ops i ⟨d, .call ⟨.value f, as, ts⟩, ty, pos, af, g⟩ rest K X c e σ := rfl
@[go_sem ↓] theorem opX_append {as : Array Operand} {ts : Array TypeId} {g : Option (Nat × Bool)} : opX P B ops i ⟨d, .call ⟨.builtin .append, as, ts⟩, ty, pos, af, g⟩ rest K X c e σ = effD P B ops i ⟨d, .call ⟨.builtin .append, as, ts⟩, ty, pos, af, g⟩ rest K X c e σ := rfl
/-- From here on the order is the text's. -/
theorem effD_tail {o : Oper} (ht : tailB ops i = true) (h : upto c.c σ (runL P B ops (o :: rest) K e)) : effD P B ops i o rest K X c e σ := .inl ⟨ht, h⟩
/-- Here the region is parted. -/
theorem effD_cut {o : Oper} (ht : cutB ops i = true) (h : upto c.c σ (opS P B ⟨o.dst, o.op, o.type, o.pos, o.after, none⟩ (X ⟨c.c, false, c.e⟩) e)) : effD P B ops i o rest K X c e σ := .inr (.inl ⟨ht, h⟩)
/-- A call that leaves all as it was. -/
theorem effD_call {o : Oper} {v : Value} (hq : QC P B o e σ v) (h : X ⟨true, rn, e0⟩ (e.put o.dst v) σ) : effD P B ops i o rest K X ⟨true, rn, e0⟩ e σ := .inr (.inr (.inl ⟨rfl, v, hq, h⟩))
/-- By a rule on any order. -/
theorem effD_any {o : Oper} (h : AnyS P B ops K e0 σ) : effD P B ops i o rest K X ⟨c0, true, e0⟩ e σ := .inr (.inr (.inr ⟨rfl, h⟩))
@[go_sem ↓] theorem atS_succ {o : Oper} {l : List Oper} {i : Nat} : atS P B (i + 1) ops (o :: l) K e σ = atS P B i ops l K e σ := rfl
@[go_sem ↓] theorem atS_none {l : List Oper} : atS P B 0 ops (⟨d, p, ty, pos, af, none⟩ :: l) K e σ = opS P B ⟨d, p, ty, pos, af, none⟩ K e σ := by
  show brS true _ _ _ _ = _
  rw [brS_true]
@[go_sem ↓] theorem atS_some {l : List Oper} {g : Nat × Bool} : atS P B 0 ops (⟨d, p, ty, pos, af, some g⟩ :: l) K e σ = brS (gd ops ⟨d, p, ty, pos, af, some g⟩ e) (opS P B ⟨d, p, ty, pos, af, none⟩ K) (skipK d K) e σ := rfl
@[go_sem] theorem upto_false {Z : St → Prop} : upto false σ Z = Z σ := rfl
@[go_sem] theorem upto_true {Z : St → Prop} : upto true σ Z = ∀ m, σ.n ≤ m → Z (σ.up m) := rfl
attribute [go_sem] dfr

/-! ### Values -/
@[go_sem] theorem nck_ptr {a : Addr} : nck (.pointer (some a)) = some (.pointer (some a)) := rfl
@[go_sem] theorem nck_func {f : FuncId} {x y : Array Value} : nck (.func (.func f) x y) = some (.func (.func f) x y) := rfl
@[go_sem] theorem nck_yield {f : Nat} {x y : Array Value} : nck (.func (.yield f) x y) = some (.func (.yield f) x y) := rfl
@[go_sem] theorem un_not {b : Bool} : un .not (.bool b) = some (.bool !b) := rfl
@[go_sem] theorem un_neg {k : IntKind} {x : Int} : un .neg (.int k x) = some (.int k (k.wrap (0 - x))) := rfl
variable {t : TypeId} {k : IntKind} {a b : Int}
@[go_sem] theorem bin_add : bin P .add t (.int k a) (.int k b) = some (.int k (k.wrap (a + b))) := by simp [bin, ib]
@[go_sem] theorem bin_sub : bin P .sub t (.int k a) (.int k b) = some (.int k (k.wrap (a - b))) := by simp [bin, ib]
@[go_sem] theorem bin_mul : bin P .mul t (.int k a) (.int k b) = some (.int k (k.wrap (a * b))) := by simp [bin, ib]
@[go_sem] theorem bin_quo : bin P .quo t (.int k a) (.int k b) = if b = 0 then none else some (.int k (k.wrap (a.tdiv b))) := by simp [bin, ib]
@[go_sem] theorem bin_rem : bin P .rem t (.int k a) (.int k b) = if b = 0 then none else some (.int k (a.tmod b)) := by simp [bin, ib]
@[go_sem] theorem bin_eql : bin P .eql t (.int k a) (.int k b) = some (.bool (decide (a = b))) := by simp [bin, ib]; rfl
@[go_sem] theorem bin_neq : bin P .neq t (.int k a) (.int k b) = some (.bool (decide (a ≠ b))) := by simp [bin, ib]; by_cases h : a = b <;> simp [h]
@[go_sem] theorem bin_lss : bin P .lss t (.int k a) (.int k b) = some (.bool (decide (a < b))) := by simp [bin, ib]
@[go_sem] theorem bin_leq : bin P .leq t (.int k a) (.int k b) = some (.bool (decide (a ≤ b))) := by simp [bin, ib]
@[go_sem] theorem bin_gtr : bin P .gtr t (.int k a) (.int k b) = some (.bool (decide (b < a))) := by simp [bin, ib]
@[go_sem] theorem bin_geq : bin P .geq t (.int k a) (.int k b) = some (.bool (decide (b ≤ a))) := by simp [bin, ib]
@[go_sem] theorem bin_string {op : BinOp} {x y : ByteArray} : bin P op t (.string x) (.string y) = sb op x y := rfl
@[go_sem] theorem sb_eql {x y : ByteArray} : sb .eql x y = some (.bool (decide (x = y))) := by
  simp only [sb, Option.some.injEq, Value.bool.injEq]
  rw [Bool.eq_iff_iff]; simp only [beq_iff_eq, decide_eq_true_eq]
  constructor
  · intro h; rw [bytes_toList, bytes_toList] at h; cases x; cases y; simp only [ByteArray.mk.injEq]; exact Array.ext' h
  · rintro rfl; rfl
@[go_sem] theorem sb_neq {x y : ByteArray} : sb .neq x y = some (.bool (decide (x ≠ y))) := by
  have h := sb_eql (x := x) (y := y)
  simp only [sb, Option.some.injEq, Value.bool.injEq] at h ⊢
  rw [h]; by_cases e : x = y <;> simp [e]
def eqB (k : Kd) (x y : Value) : Option Value := (eqv k x y).map .bool
def neB (k : Kd) (x y : Value) : Option Value := (eqv k x y).map fun b => .bool !b
@[go_sem] theorem bin_eql_bool {x y : Bool} : bin P .eql t (.bool x) (.bool y) = eqB (kd P t) (.bool x) (.bool y) := rfl
@[go_sem] theorem bin_neq_bool {x y : Bool} : bin P .neq t (.bool x) (.bool y) = neB (kd P t) (.bool x) (.bool y) := rfl
@[go_sem] theorem bin_eql_ptr {x y : Option Addr} : bin P .eql t (.pointer x) (.pointer y) = eqB (kd P t) (.pointer x) (.pointer y) := rfl
@[go_sem] theorem bin_neq_ptr {x y : Option Addr} : bin P .neq t (.pointer x) (.pointer y) = neB (kd P t) (.pointer x) (.pointer y) := rfl
@[go_sem] theorem bin_eql_func {f : Go.Fn} {x y : Array Value} : bin P .eql t (.func f x y) .nilFunc = eqB (kd P t) (.func f x y) .nilFunc := rfl
@[go_sem] theorem bin_neq_func {f : Go.Fn} {x y : Array Value} : bin P .neq t (.func f x y) .nilFunc = neB (kd P t) (.func f x y) .nilFunc := rfl
@[go_sem] theorem bin_eql_nilfunc : bin P .eql t .nilFunc .nilFunc = eqB (kd P t) .nilFunc .nilFunc := rfl
@[go_sem] theorem bin_neq_nilfunc : bin P .neq t .nilFunc .nilFunc = neB (kd P t) .nilFunc .nilFunc := rfl
@[go_sem] theorem bin_eql_slice {x y : Option Addr} {i j i' j' : Nat} : bin P .eql t (.slice x i j) (.slice y i' j') = eqB (kd P t) (.slice x i j) (.slice y i' j') := rfl
@[go_sem] theorem bin_neq_slice {x y : Option Addr} {i j i' j' : Nat} : bin P .neq t (.slice x i j) (.slice y i' j') = neB (kd P t) (.slice x i j) (.slice y i' j') := rfl
@[go_sem] theorem bin_eql_map {x y : Option Nat} : bin P .eql t (.map x) (.map y) = eqB (kd P t) (.map x) (.map y) := rfl
@[go_sem] theorem bin_neq_map {x y : Option Nat} : bin P .neq t (.map x) (.map y) = neB (kd P t) (.map x) (.map y) := rfl
@[go_sem] theorem eqB_bool {x y : Bool} : eqB .bool (.bool x) (.bool y) = some (.bool (x == y)) := rfl
@[go_sem] theorem neB_bool {x y : Bool} : neB .bool (.bool x) (.bool y) = some (.bool (x != y)) := rfl
@[go_sem] theorem eqB_ptr_some {x : Addr} : eqB .pointer (.pointer (some x)) (.pointer none) = some (.bool false) := rfl
@[go_sem] theorem eqB_ptr_none : eqB .pointer (.pointer none) (.pointer none) = some (.bool true) := rfl
@[go_sem] theorem neB_ptr_some {x : Addr} : neB .pointer (.pointer (some x)) (.pointer none) = some (.bool true) := rfl
@[go_sem] theorem neB_ptr_none : neB .pointer (.pointer none) (.pointer none) = some (.bool false) := rfl
@[go_sem] theorem eqB_func {f : Go.Fn} {x y : Array Value} : eqB .func (.func f x y) .nilFunc = some (.bool false) := rfl
@[go_sem] theorem neB_func {f : Go.Fn} {x y : Array Value} : neB .func (.func f x y) .nilFunc = some (.bool true) := rfl
@[go_sem] theorem eqB_nilfunc : eqB .func .nilFunc .nilFunc = some (.bool true) := rfl
@[go_sem] theorem neB_nilfunc : neB .func .nilFunc .nilFunc = some (.bool false) := rfl
@[go_sem] theorem eqB_map_some {x : Nat} : eqB .map (.map (some x)) (.map none) = some (.bool false) := rfl
@[go_sem] theorem eqB_map_none : eqB .map (.map none) (.map none) = some (.bool true) := rfl
@[go_sem] theorem eqB_slice_none {i j i' j' : Nat} {y : Option Addr} : eqB .slice (.slice none i j) (.slice y i' j') = some (.bool y.isNone) := rfl
@[go_sem] theorem eqB_slice_some {i j i' j' : Nat} {y : Addr} : eqB .slice (.slice (some y) i j) (.slice none i' j') = some (.bool false) := rfl
attribute [go_sem] wrap_i64

/-! ### Memory -/
def rdK (B : World) (b o : Nat) : Option HP → Option Value
  | some (.raw (.cells c _ _)) => c[o]?
  | some _ => none
  | none => if b < B.heap.size then B.cell? ⟨b, o, none⟩ else none
theorem rd_eq {b o : Nat} : rd B σ ⟨b, o, none⟩ = rdK B b o (σ.m b) := by
  unfold rd rdK
  cases σ.m b with
  | none => rfl
  | some x =>
    cases x with
    | comp R => rfl
    | raw o => cases o <;> rfl
def nthV : List Value → Nat → Option Value
  | [], _ => none
  | v :: _, 0 => some v
  | _ :: l, j + 1 => nthV l j
theorem nthV_eq : ∀ (l : List Value) (j : Nat), nthV l j = l[j]?
  | [], j => by simp [nthV]
  | v :: l, 0 => by simp [nthV]
  | v :: l, j + 1 => by simp [nthV, nthV_eq l j]
@[go_sem] theorem nthV_zero {v : Value} {l : List Value} : nthV (v :: l) 0 = some v := rfl
@[go_sem] theorem nthV_succ {v : Value} {l : List Value} {j : Nat} : nthV (v :: l) (j + 1) = nthV l j := rfl
@[go_sem] theorem rdK_lit {b o : Nat} {l : List Value} {v : Value} {t : TypeId} {fz : Nat × Nat} : rdK B b o (some (.raw (.cells (v :: l).toArray t fz))) = nthV (v :: l) o := by
  rw [nthV_eq]; simp [rdK]
@[go_sem low] theorem rdK_raw {b o : Nat} {c : Array Value} {t : TypeId} {fz : Nat × Nat} : rdK B b o (some (.raw (.cells c t fz))) = c[o]? := rfl
def ldK (B : World) (σ : St) (b o : Nat) : Option (Bool × Nat) → Option Value
  | some (true, n) => (rds B σ ⟨b, o, none⟩ 0 n).map fun l => .agg l.toArray
  | some (false, _) => rdK B b o (σ.m b)
  | none => none
@[go_sem] theorem ldp_eq {b o : Nat} : ldp P B σ t (.pointer (some ⟨b, o, none⟩)) = ldK B σ b o (tk P t) := by
  unfold ldp ldv ldK
  simp only
  cases tk P t with
  | none => rfl
  | some x => obtain ⟨g, n⟩ := x; cases g <;> simp [rd_eq]
@[go_sem] theorem ldv_eq {b o : Nat} : ldv P B σ t ⟨b, o, none⟩ = ldK B σ b o (tk P t) := ldp_eq
@[go_sem] theorem ldK_one {b o n : Nat} : ldK B σ b o (some (false, n)) = rdK B b o (σ.m b) := rfl
@[go_sem] theorem ldK_agg {b o n : Nat} : ldK B σ b o (some (true, n)) = (rds B σ ⟨b, o, none⟩ 0 n).map fun l => .agg l.toArray := rfl
@[go_sem] theorem rds_zero {a : Addr} {i : Nat} : rds B σ a i 0 = some [] := rfl
@[go_sem] theorem rds_succ {b o i n : Nat} : rds B σ ⟨b, o, none⟩ i (n + 1) = (rdK B b (o + i) (σ.m b)).bind fun v => (rds B σ ⟨b, o, none⟩ (i + 1) n).map fun l => v :: l := by
  simp only [rds, add_none, rd_eq]
@[go_sem] theorem add_mk {b o i : Nat} : (⟨b, o, none⟩ : Addr).add i = ⟨b, o + i, none⟩ := add_none rfl

def wrK (σ : St) (b o : Nat) (vs : List Value) : Option HP → Option St
  | some (.raw (.cells c ty (0, 0))) => if o + vs.length ≤ c.size ∧ vs.all Value.oneCell' = true then some (σ.set b (.raw (.cells (wrl c o vs) ty (0, 0)))) else none
  | _ => none
def stK (σ : St) (b o : Nat) (v : Value) : Option (Bool × Nat) → Option St
  | some (_, n) => if (vc v).size = n then wrK σ b o (vc v).toList (σ.m b) else none
  | none => none
theorem wrs_eq {b o : Nat} {vs : List Value} : wrs σ ⟨b, o, none⟩ vs = wrK σ b o vs (σ.m b) := by
  unfold wrs wrK
  cases σ.m b with
  | none => rfl
  | some x =>
    cases x with
    | comp R => rfl
    | raw o =>
      cases o with
      | cells c ty fz =>
        obtain ⟨i, j⟩ := fz
        cases i <;> cases j <;> simp
      | _ => rfl
@[go_sem] theorem stv_eq {b o : Nat} {v : Value} : stv P σ t (.pointer (some ⟨b, o, none⟩)) v = stK σ b o v (tk P t) := by
  unfold stv stK
  cases tk P t with
  | none => rfl
  | some x => obtain ⟨g, n⟩ := x; simp only [wrs_eq]; rfl
@[go_sem] theorem stK_some {b o n : Nat} {v : Value} {g : Bool} : stK σ b o v (some (g, n)) = if (vc v).size = n then wrK σ b o (vc v).toList (σ.m b) else none := rfl
@[go_sem] theorem wrK_raw {b o : Nat} {vs : List Value} {c : Array Value} {ty : TypeId} : wrK σ b o vs (some (.raw (.cells c ty (0, 0)))) = if o + vs.length ≤ c.size ∧ vs.all Value.oneCell' = true then some (σ.set b (.raw (.cells (wrl c o vs) ty (0, 0)))) else none := rfl
@[go_sem] theorem wrl_nil {c : Array Value} {i : Nat} : wrl c i [] = c := rfl
@[go_sem] theorem wrl_cons {c : Array Value} {i : Nat} {v : Value} {vs : List Value} : wrl c i (v :: vs) = wrl (c.setIfInBounds i v) (i + 1) vs := rfl
@[go_sem] theorem cells_bool {b : Bool} : vc (.bool b) = #[.bool b] := rfl
@[go_sem] theorem cells_int {k : IntKind} {x : Int} : vc (.int k x) = #[.int k x] := rfl
@[go_sem] theorem cells_string {s : ByteArray} : vc (.string s) = #[.string s] := rfl
@[go_sem] theorem cells_pointer {a : Option Addr} : vc (.pointer a) = #[.pointer a] := rfl
@[go_sem] theorem cells_slice {a : Option Addr} {i j : Nat} : vc (.slice a i j) = #[.slice a i j] := rfl
@[go_sem] theorem cells_map {a : Option Nat} : vc (.map a) = #[.map a] := rfl
@[go_sem] theorem cells_func {f : Go.Fn} {x y : Array Value} : vc (.func f x y) = #[.func f x y] := rfl
@[go_sem] theorem cells_nilFunc  : vc (.nilFunc) = #[.nilFunc] := rfl
@[go_sem] theorem cells_iface {t : TypeId} {v : Value} : vc (.iface t v) = #[.iface t v] := rfl
@[go_sem] theorem cells_nilIface  : vc (.nilIface) = #[.nilIface] := rfl
@[go_sem] theorem cells_agg {cs : Array Value} : vc (.agg cs) = cs := rfl
@[go_sem] theorem one_bool {b : Bool} : Value.oneCell' (.bool b) = true := rfl
@[go_sem] theorem one_int {k : IntKind} {x : Int} : Value.oneCell' (.int k x) = true := rfl
@[go_sem] theorem one_string {s : ByteArray} : Value.oneCell' (.string s) = true := rfl
@[go_sem] theorem one_pointer {a : Option Addr} : Value.oneCell' (.pointer a) = true := rfl
@[go_sem] theorem one_slice {a : Option Addr} {i j : Nat} : Value.oneCell' (.slice a i j) = true := rfl
@[go_sem] theorem one_map {a : Option Nat} : Value.oneCell' (.map a) = true := rfl
@[go_sem] theorem one_func {f : Go.Fn} {x y : Array Value} : Value.oneCell' (.func f x y) = true := rfl
@[go_sem] theorem one_nilFunc  : Value.oneCell' (.nilFunc) = true := rfl
@[go_sem] theorem one_iface {t : TypeId} {v : Value} : Value.oneCell' (.iface t v) = true := rfl
@[go_sem] theorem one_nilIface  : Value.oneCell' (.nilIface) = true := rfl
@[go_sem] theorem one_agg {cs : Array Value} : Value.oneCell' (.agg cs) = false := rfl
theorem fill_wrl (off : Nat) : ∀ (l : List Value) (j : Nat) (cells : Array Value), (l.zipIdx j).foldl (fun (cs : Array Value) (x : Value × Nat) => cs.setIfInBounds (off + x.2) x.1) cells = wrl cells (off + j) l
  | [], _, _ => rfl
  | v :: l, j, cells => by simp only [List.zipIdx_cons, List.foldl_cons, wrl]; rw [fill_wrl off l (j + 1)]; rfl
def fillK (place : Nat → Option (Nat × Nat)) (cells : Array Value) (v : Value) (rest : List (Nat × Value)) : Option (Nat × Nat) → Option (Array Value)
  | none => none
  | some (off, size) => if (vc v).size ≠ size ∨ off + (vc v).size > cells.size then none else fl place (wrl cells off (vc v).toList) rest
@[go_sem] theorem fill_nil {place : Nat → Option (Nat × Nat)} {cells : Array Value} : fl place cells [] = some cells := rfl
@[go_sem] theorem fill_cons {place : Nat → Option (Nat × Nat)} {cells : Array Value} {i : Nat} {v : Value} {rest : List (Nat × Value)} : fl place cells ((i, v) :: rest) = fillK place cells v rest (place i) := by
  unfold fl fillK
  rw [Instr.fill.eq_2]
  cases place i with
  | none => rfl
  | some x =>
    obtain ⟨off, size⟩ := x
    have h := fill_wrl off v.cells.toList 0 cells
    have e : v.cells.zipIdx.foldl (fun (cs : Array Value) (x : Value × Nat) => cs.setIfInBounds (off + x.2) x.1) cells = wrl cells off v.cells.toList := by
      rw [Nat.add_zero] at h
      rw [← h, ← Array.foldl_toList]; simp
    show (if (v.cells.size ≠ size || off + v.cells.size > cells.size) = true then none else _) = if v.cells.size ≠ size ∨ off + v.cells.size > cells.size then none else _
    by_cases hc : v.cells.size ≠ size ∨ off + v.cells.size > cells.size
    · rw [if_pos hc, if_pos (by simpa using hc)]
    · rw [if_neg hc, if_neg (by simpa using hc)]
      show Instr.fill place (v.cells.zipIdx.foldl (fun (cs : Array Value) (x : Value × Nat) => cs.setIfInBounds (off + x.2) x.1) cells) rest = _
      rw [e]; rfl
@[go_sem] theorem fillK_some {place : Nat → Option (Nat × Nat)} {cells : Array Value} {v : Value} {rest : List (Nat × Value)} {off size : Nat} :
    fillK place cells v rest (some (off, size)) = if (vc v).size ≠ size ∨ off + (vc v).size > cells.size then none else fl place (wrl cells off (vc v).toList) rest := rfl
def nthP : List (Nat × Nat) → Nat → Option (Nat × Nat)
  | [], _ => none
  | x :: _, 0 => some x
  | _ :: l, j + 1 => nthP l j
theorem nthP_eq : ∀ (l : List (Nat × Nat)), nthP l = fun j => l[j]?
  | [] => by funext j; simp [nthP]
  | x :: l => by
    funext j
    cases j with
    | zero => simp [nthP]
    | succ j => simp [nthP, nthP_eq l]
@[go_sem] theorem nthP_zero {x : Nat × Nat} {l : List (Nat × Nat)} : nthP (x :: l) 0 = some x := rfl
@[go_sem] theorem nthP_succ {x : Nat × Nat} {l : List (Nat × Nat)} {j : Nat} : nthP (x :: l) (j + 1) = nthP l j := rfl
def bldK (parts : List (Nat × Value)) : Option (Array Value × (List (Nat × Nat) ⊕ Nat)) → Option Value
  | some (z, .inl pl) => (fl (nthP pl) z parts).map .agg
  | some (z, .inr s) => (fl (fun i => some (i * s, s)) z parts).map .agg
  | none => none
@[go_sem] theorem bld_eq {parts : List (Nat × Value)} : bld P t parts = bldK parts (bp P t) := by
  unfold bld bldK
  cases bp P t with
  | none => rfl
  | some x => obtain ⟨z, y⟩ := x; cases y <;> simp only [nthP_eq] <;> rfl
@[go_sem] theorem bldK_inl {parts : List (Nat × Value)} {z : Array Value} {pl : List (Nat × Nat)} : bldK parts (some (z, .inl pl)) = (fl (nthP pl) z parts).map .agg := rfl
@[go_sem] theorem bldK_inr {parts : List (Nat × Value)} {z : Array Value} {s : Nat} : bldK parts (some (z, .inr s)) = (fl (fun i => some (i * s, s)) z parts).map .agg := rfl

/-! ### What is left of memory when a function returns -/
theorem To.obj {b : Nat} {X : HP} {τ : St} (hb : τ.m b = some X) (hr : ∀ c x, c ≠ b → c < σ.n → σ.m c = some x → τ.m c = some x) (hwf : σ.wf B) : To B τ ((σ.set b X).up τ.n) := by
  refine To.sub rfl fun c x hc => ?_
  simp only [St.up_m] at hc
  by_cases e : c = b
  · subst e; rw [St.set_m_same] at hc; rw [hb, hc]
  · rw [St.set_m_ne _ _ e] at hc; exact hr c x e (hwf.2 c x hc).2 hc
theorem To.same {τ : St} (hr : ∀ c x, c < σ.n → σ.m c = some x → τ.m c = some x) (hwf : σ.wf B) : To B τ (σ.up τ.n) :=
  To.sub rfl fun c x hc => hr c x (hwf.2 c x hc).2 hc
/-- A function's contract, from its body; at the end memory may be seen by a smaller view. -/
theorem Fn.of' {f : FuncId} {n : Nat} {c : Code} {rs : Array ResultVar} (hf : FnIs P f n c rs) {args : Array Value} {K : Value → St → Prop} (hsz : args.size ≤ n)
    (h : σ.wf B → wpS P B none n c (retQ P B rs fun v σ' => ∃ σ'', To B σ' σ'' ∧ K v σ'') (fr0 args) σ) : Fn P B f args σ K :=
  Fn.conseq (Fn.of hf hsz h) fun _ _ h => h

/-! ### Calls -/
variable {K : Value → St → Prop} {args args' : Array Value} {σ' : St} {f : FuncId} {g g' : Value}
def callF (P : Program) (B : World) (f : FuncId) (args : Array Value) (d : Option Tmp) (K : Fr → St → Prop) (e : Fr) (σ : St) : Prop := Fn P B f args σ fun v σ' => K (e.put d v) σ'
def callR (P : Program) (B : World) (l : Nat) (args : Array Value) (d : Option Tmp) (K : Fr → St → Prop) (e : Fr) (σ : St) : Prop := Rd P B l args σ fun v σ' => K (e.put d v) σ'
@[go_sem] theorem callK_func {P : Program} {B : World} {f : FuncId} {first cap args : Array Value} {d : Option Tmp} {K : Fr → St → Prop} {e : Fr} {σ : St} :
    callK P B (.func (.func f) first cap) args d K e σ = callF P B f (first ++ args ++ cap) d K e σ := rfl
@[go_sem] theorem callK_yield {P : Program} {B : World} {l : Nat} {first cap args : Array Value} {d : Option Tmp} {K : Fr → St → Prop} {e : Fr} {σ : St} :
    callK P B (.func (.yield l) first cap) args d K e σ = callR P B l (first ++ args) d K e σ := rfl
/-- A call, by its contract. -/
theorem callF_of {P : Program} {B : World} {f : FuncId} {args : Array Value} {d : Option Tmp} {K : Fr → St → Prop} {e : Fr} {σ : St} (h : Fn P B f args σ fun v σ' => K (e.put d v) σ') : callF P B f args d K e σ := h
theorem callR_of {P : Program} {B : World} {l : Nat} {args : Array Value} {d : Option Tmp} {K : Fr → St → Prop} {e : Fr} {σ : St} (h : Rd P B l args σ fun v σ' => K (e.put d v) σ') : callR P B l args d K e σ := h
theorem callK_any {P : Program} {B : World} {g : Value} {args : Array Value} {d : Option Tmp} {K : Fr → St → Prop} {e : Fr} {σ : St} (h : FnV P B g args σ fun v σ' => K (e.put d v) σ') :
    callK P B g args d K e σ := h
@[go_sem] theorem FnV_func {first cap : Array Value} : FnV P B (.func (.func f) first cap) args σ K = Fn P B f (first ++ args ++ cap) σ K := rfl
@[go_sem] theorem FnV_yield {l : Nat} {first cap : Array Value} : FnV P B (.func (.yield l) first cap) args σ K = Rd P B l (first ++ args) σ K := rfl

/-! ### Returns -/
@[go_sem] theorem retQ_ret {rs : Array ResultVar} : retQ P B rs K .ret e σ = Leave P B e.d σ fun σ' => bindK (resL P B σ' e rs.toList) fun vs => K (tup vs) σ' := rfl
@[go_sem] theorem retQ_normal {rs : Array ResultVar} : retQ P B rs K .normal e σ = Leave P B e.d σ fun σ' => bindK (resL P B σ' e rs.toList) fun vs => K (tup vs) σ' := rfl
@[go_sem] theorem Leave_nil {K : St → Prop} : Leave P B [] σ K = K σ := rfl
@[go_sem] theorem resL_nil : resL P B σ e [] = some [] := rfl
@[go_sem] theorem resL_tmp {i : Tmp} {rs : List ResultVar} : resL P B σ e (.tmp i :: rs) = (resL P B σ e rs).map fun l => e.v i :: l := rfl
def resC (P : Program) (B : World) (σ : St) (t : TypeId) (x : Value) (l : Option (List Value)) : Option (List Value) := (ldp P B σ t x).bind fun v => l.map fun l => v :: l
@[go_sem] theorem resL_cell {i : Tmp} {rs : List ResultVar} : resL P B σ e (.cell i t :: rs) = resC P B σ t (e.v i) (resL P B σ e rs) := by
  simp only [resL, resC, ldp]
  cases e.v i with
  | pointer a => cases a <;> rfl
  | _ => rfl
@[go_sem] theorem resC_ptr {b o : Nat} {l : Option (List Value)} : resC P B σ t (.pointer (some ⟨b, o, none⟩)) l = (ldK B σ b o (tk P t)).bind fun v => l.map fun l => v :: l := by
  simp only [resC, ldp_eq]
@[simp, go_sem] theorem tup_one {v : Value} : tup [v] = v := rfl
@[simp, go_sem] theorem tup_nil : tup [] = .tuple #[] := rfl
@[simp, go_sem] theorem tup_two {v w : Value} {l : List Value} : tup (v :: w :: l) = .tuple (v :: w :: l).toArray := rfl
def argV : List Value → Nat → Value
  | [], _ => undef
  | v :: _, 0 => v
  | _ :: l, j + 1 => argV l j
theorem argV_eq : ∀ (l : List Value) (j : Nat), argV l j = l.toArray.getD j undef
  | [], j => by simp [argV]
  | v :: l, 0 => by simp [argV]
  | v :: l, j + 1 => by simp [argV, argV_eq l j]
@[go_sem] theorem argV_nil {j : Nat} : argV [] j = undef := rfl
@[go_sem] theorem argV_zero {v : Value} {l : List Value} : argV (v :: l) 0 = v := rfl
@[go_sem] theorem argV_succ {v : Value} {l : List Value} {j : Nat} : argV (v :: l) (j + 1) = argV l j := rfl
@[go_sem] theorem fr0_v {l : List Value} {i : Nat} : (fr0 l.toArray).v i = argV l i := by rw [argV_eq]; rfl
@[go_sem] theorem fr0_d : (fr0 args).d = [] := rfl
end
end Go.Proofs.YtdbgeahmhfocaaaGreat
