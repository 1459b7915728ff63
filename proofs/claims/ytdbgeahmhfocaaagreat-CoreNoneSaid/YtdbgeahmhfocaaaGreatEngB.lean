/- What each quiet operation yields, by the view of memory: a plain function; and that the machine's own operation yields just that. -/
import Derived.Test.YtdbgeahmhfocaaaGreatEngA
import Derived.Laws.Entries
import Derived.Laws.StructEq
import Derived.ChangeKeysEq
namespace Go.Proofs.YtdbgeahmhfocaaaGreat
set_option linter.unusedSimpArgs false
set_option linter.unusedVariables false
open Go Go.RowKit

/-! ### Facts about types -/
inductive Kd where
  | bool | int (k : IntKind) | string | pointer | slice | array | map | struct | func | iface | other
  deriving DecidableEq

def kd (P : Program) (t : TypeId) : Kd :=
  match P.underlying t with
  | some .bool => .bool
  | some (.int k) => .int k
  | some .string => .string
  | some (.pointer _) => .pointer
  | some (.slice _) => .slice
  | some (.array _ _) => .array
  | some (.map _ _) => .map
  | some (.struct _) => .struct
  | some (.func _ _ _) => .func
  | some (.interface _) => .iface
  | _ => .other

/-- Is it a struct or an array, and how many cells has it? -/
def tk (P : Program) (t : TypeId) : Option (Bool × Nat) :=
  match P.underlying t with
  | none => none
  | some (.struct _) => (P.info? t).map fun i => (true, i.size)
  | some (.array _ _) => (P.info? t).map fun i => (true, i.size)
  | some _ => (P.info? t).map fun i => (false, i.size)

def zr (P : Program) (t : TypeId) : Option Value := (P.info? t).bind (·.zero)

/-- A field's offset. -/
def fo (P : Program) (s f : Nat) : Option Nat :=
  match P.underlying s with
  | some (.struct fs) =>
    match fs[f]? with
    | some fd => (P.info? fd.type).bind fun i => if i.size = 0 then none else some fd.offset
    | none => none
  | _ => none

/-- A field of a struct's value: its offset; its cells, if it is a struct or an array itself. -/
def fk (P : Program) (s f : Nat) : Option (Nat × Option Nat) :=
  match P.underlying s with
  | some (.struct fs) =>
    match fs[f]? with
    | some fd => (tk P fd.type).map fun (agg, n) => (fd.offset, if agg then some n else none)
    | none => none
  | _ => none

/-- What is indexed: an array of so many elements, or a slice; an element's cells, and whether it is a struct or an array. -/
def ik (P : Program) (t : TypeId) : Option (Option Nat × Nat × Bool) :=
  match P.underlying t with
  | some (.array n e) => (tk P e).map fun (agg, s) => (some n, s, agg)
  | some (.slice e) => (tk P e).map fun (agg, s) => (none, s, agg)
  | _ => none

section
variable {P : Program} {w : World}

theorem run_und {t : TypeId} {d : TypeDesc} (h : P.underlying t = some d) : (underlying t).run P w = .ok d w := run_underlying h w
theorem run_tyi {t : TypeId} {i : TypeInfo} (h : P.info? t = some i) : (typeInfo t).run P w = .ok i w := by simp [typeInfo, h]
theorem run_sz {t : TypeId} {i : TypeInfo} (h : P.info? t = some i) : (sizeOf t).run P w = .ok i.size w := by simp [sizeOf, run_tyi h]
theorem run_zr {t : TypeId} {z : Value} (h : zr P t = some z) : (zeroValue t).run P w = .ok z w := by
  unfold zr at h
  cases hi : P.info? t with
  | none => simp [hi] at h
  | some i => simp [hi] at h; simp [zeroValue, run_tyi hi, h]

theorem tk_spec {t : TypeId} {b : Bool} {n : Nat} (h : tk P t = some (b, n)) :
    ∃ d i, P.underlying t = some d ∧ P.info? t = some i ∧ i.size = n ∧ (isAgg t).run P w = .ok b w := by
  unfold tk at h
  split at h
  · cases h
  · rename_i fs hu
    cases hi : P.info? t with
    | none => simp [hi] at h
    | some i => simp [hi] at h; exact ⟨_, i, hu, rfl, h.2, by simp [isAgg, run_und hu, h.1]⟩
  · rename_i k e hu
    cases hi : P.info? t with
    | none => simp [hi] at h
    | some i => simp [hi] at h; exact ⟨_, i, hu, rfl, h.2, by simp [isAgg, run_und hu, h.1]⟩
  · rename_i d h1 h2 hu
    cases hi : P.info? t with
    | none => simp [hi] at h
    | some i =>
      simp [hi] at h
      refine ⟨_, i, hu, rfl, h.2, ?_⟩
      cases d <;> first | (simp [isAgg, run_und hu, h.1]; done) | exact (h1 _ rfl).elim | exact (h2 _ _ rfl).elim
end

/-! ### Loads -/
/-- So many cells from an address on. -/
def rds (B : World) (σ : St) (a : Addr) : Nat → Nat → Option (List Value)
  | _, 0 => some []
  | i, n + 1 => (rd B σ (a.add i)).bind fun v => (rds B σ a (i + 1) n).map fun l => v :: l

def ldv (P : Program) (B : World) (σ : St) (t : TypeId) (a : Addr) : Option Value :=
  match tk P t with
  | some (true, n) => (rds B σ a 0 n).map fun l => .agg l.toArray
  | some (false, _) => rd B σ a
  | none => none

section
variable {P : Program} {B w : World} {σ : St}

theorem run_loadCells (h : Rel B w σ) (a : Addr) : ∀ (n i : Nat) (acc : Array Value) (l : List Value), rds B σ a i n = some l →
    (loadCellsFrom a i n acc).run P w = .ok (acc ++ l.toArray) w
  | 0, i, acc, l, hl => by simp [rds] at hl; subst hl; simp [loadCellsFrom]
  | n + 1, i, acc, l, hl => by
    simp only [rds, Option.bind_eq_some_iff, Option.map_eq_some_iff] at hl
    obtain ⟨v, hv, l', hl', rfl⟩ := hl
    simp [loadCellsFrom, h.cell hv, run_loadCells h a n (i + 1) _ l' hl']

theorem run_ldv (h : Rel B w σ) {t : TypeId} {a : Addr} {v : Value} (hv : ldv P B σ t a = some v) : (loadVar t a).run P w = .ok v w := by
  unfold ldv at hv
  split at hv
  · rename_i n ht
    obtain ⟨d, i, hu, hi, hn, hag⟩ := tk_spec (w := w) ht
    simp only [Option.map_eq_some_iff] at hv
    obtain ⟨l, hl, rfl⟩ := hv
    subst hn
    simp only [loadVar, Sem.run_bind, hag, Result.andThen_ok, if_true, run_sz hi, Sem.run_pure, loadCells]
    simp [run_loadCells h a _ 0 #[] l hl]
  · rename_i n ht
    obtain ⟨d, i, hu, hi, hn, hag⟩ := tk_spec (w := w) ht
    simp [loadVar, hag, h.cell hv]
  · cases hv
end

/-! ### Arithmetic, comparisons -/
def ib (op : BinOp) (k : IntKind) (a b : Int) : Option Value :=
  match op with
  | .add => some (.int k (k.wrap (a + b)))
  | .sub => some (.int k (k.wrap (a - b)))
  | .mul => some (.int k (k.wrap (a * b)))
  | .quo => if b = 0 then none else some (.int k (k.wrap (a.tdiv b)))
  | .rem => if b = 0 then none else some (.int k (a.tmod b))
  | .eql => some (.bool (a == b))
  | .neq => some (.bool (a != b))
  | .lss => some (.bool (a < b))
  | .leq => some (.bool (a ≤ b))
  | .gtr => some (.bool (a > b))
  | .geq => some (.bool (a ≥ b))
  | _ => none

def sb (op : BinOp) (x y : ByteArray) : Option Value :=
  match op with
  | .add => if ((x.size + y.size : Nat) : Int) > IntKind.i64.max then none else some (.string (x ++ y))
  | .eql => some (.bool (x.toList == y.toList))
  | .neq => some (.bool !(x.toList == y.toList))
  | .lss => some (.bool (Op.bytesLess x.toList y.toList))
  | .leq => some (.bool (Op.bytesLess x.toList y.toList || x.toList == y.toList))
  | .gtr => some (.bool !(Op.bytesLess x.toList y.toList || x.toList == y.toList))
  | .geq => some (.bool !(Op.bytesLess x.toList y.toList))
  | _ => none

/-- '==' on what is neither a number nor a text. -/
def eqv (k : Kd) (x y : Value) : Option Bool :=
  match k, x, y with
  | .bool, .bool a, .bool b => some (a == b)
  | .pointer, .pointer none, .pointer b => some b.isNone
  | .pointer, .pointer (some _), .pointer none => some false
  | .func, .nilFunc, .nilFunc => some true
  | .func, .nilFunc, .func _ _ _ => some false
  | .func, .func _ _ _, .nilFunc => some false
  | .slice, .slice none _ _, .slice b _ _ => some b.isNone
  | .slice, .slice (some _) _ _, .slice none _ _ => some false
  | .map, .map none, .map b => some b.isNone
  | .map, .map (some _), .map none => some false
  | _, _, _ => none

/-- A part of a struct's cells. -/
def prt (P : Program) (t : TypeId) (cs : Array Value) (off : Nat) : Option Value :=
  match tk P t with
  | some (true, n) => some (.agg (cs.extract off (off + n)))
  | some (false, _) => cs[off]?
  | none => none
def eqFs (P : Program) (g : TypeId → Value → Value → Option Bool) (xs ys : Array Value) : List Field → Option Bool
  | [] => some true
  | f :: fs =>
    if f.name ≠ "_" then
      match prt P f.type xs f.offset, prt P f.type ys f.offset with
      | some a, some b => match g f.type a b with | some true => eqFs P g xs ys fs | some false => some false | none => none
      | _, _ => none
    else eqFs P g xs ys fs
def eqIs (P : Program) (g : TypeId → Value → Value → Option Bool) (e : TypeId) (c : Nat) (xs ys : Array Value) : List Nat → Option Bool
  | [] => some true
  | i :: is =>
    match prt P e xs (i * c), prt P e ys (i * c) with
    | some a, some b => match g e a b with | some true => eqIs P g e c xs ys is | some false => some false | none => none
    | _, _ => none
/-- '==' on structs and arrays of numbers, texts and bools. -/
def eqD (P : Program) : Nat → TypeId → Value → Value → Option Bool
  | 0, _, _, _ => none
  | d + 1, t, x, y =>
    match P.underlying t, x, y with
    | some (.int _), .int k a, .int k' b => if k = k' then some (a == b) else none
    | some .bool, .bool a, .bool b => some (a == b)
    | some .string, .string a, .string b => some (a == b)
    | some (.struct fs), .agg xs, .agg ys => if P.stoodInHeld t then none else eqFs P (fun t a b => eqD P d t a b) xs ys fs.toList
    | some (.array n e), .agg xs, .agg ys => if (P.info? e).isNone then none else eqIs P (fun t a b => eqD P d t a b) e (P.cellsOf e) xs ys (List.range n)
    | _, _, _ => none
def eqA (P : Program) (t : TypeId) (xs ys : Array Value) : Option Bool := if P.eqGuardType P.depth t then none else eqD P 4 t (.agg xs) (.agg ys)
def isAg : Value → Bool
  | .agg _ => true
  | _ => false

def bin (P : Program) (op : BinOp) (t : TypeId) (x y : Value) : Option Value :=
  match x, y with
  | .int k a, .int k' b => if k = k' ∧ op ≠ .shl ∧ op ≠ .shr then ib op k a b else none
  | .string a, .string b => sb op a b
  | .agg xs, .agg ys =>
    match op with
    | .eql => (eqA P t xs ys).map .bool
    | .neq => (eqA P t xs ys).map fun b => .bool !b
    | _ => none
  | x, y =>
    match op with
    | .eql => (eqv (kd P t) x y).map .bool
    | .neq => (eqv (kd P t) x y).map fun b => .bool !b
    | _ => none

section
variable {P : Program} {w : World}

def kdIs : Kd → TypeDesc → Prop
  | .bool, .bool => True | .int j, .int i => i = j | .string, .string => True | .pointer, .pointer _ => True | .slice, .slice _ => True | .array, .array _ _ => True
  | .map, .map _ _ => True | .struct, .struct _ => True | .func, .func _ _ _ => True | .iface, .interface _ => True | _, _ => False

theorem kd_und {t : TypeId} {k : Kd} (h : kd P t = k) (hk : k ≠ .other) : ∃ d, P.underlying t = some d ∧ kdIs k d := by
  unfold kd at h
  split at h <;> first | (subst h; exact ⟨_, by assumption, by simp [kdIs]⟩) | exact absurd h.symm hk

theorem run_eqv {t : TypeId} {x y : Value} {b : Bool} (h : eqv (kd P t) x y = some b) : (Op.equal t x y).run P w = .ok b w := by
  obtain ⟨k, hk⟩ : ∃ k, kd P t = k := ⟨_, rfl⟩
  rw [hk] at h
  have hne : k ≠ .other := fun e => by subst e; unfold eqv at h; split at h <;> first | contradiction | cases h
  obtain ⟨d, hu, hd⟩ := kd_und hk hne
  clear hk
  unfold eqv at h
  split at h <;> first | contradiction | (cases d <;> first | exact hd.elim | (cases h; unfold Op.equal Op.maxDepth Op.equalIn; simp only [Sem.run_bind, run_und hu, Result.andThen_ok, Sem.run_pure]))

theorem run_prt {t : TypeId} {cs : Array Value} {off : Nat} {v : Value} (h : prt P t cs off = some v) : (Go.part t cs off).run P w = .ok v w := by
  unfold prt at h
  split at h
  · rename_i n ht
    obtain ⟨d, i, hu, hi, hn, hag⟩ := tk_spec (w := w) ht
    cases h
    simp [Go.part, hag, run_sz hi, hn]
  · rename_i n ht
    obtain ⟨d, i, hu, hi, hn, hag⟩ := tk_spec (w := w) ht
    simp [Go.part, hag, h]
  · cases h
theorem run_eqFs {d : Nat} {g : TypeId → Value → Value → Option Bool} (hg : ∀ t x y b, g t x y = some b → (Op.equalIn d t x y).run P w = .ok b w) (xs ys : Array Value) :
    ∀ (fs : List Field) (b : Bool), eqFs P g xs ys fs = some b → (Op.eqFields d xs ys fs).run P w = .ok b w
  | [], b, h => by simp only [eqFs, Option.some.injEq] at h; subst h; rfl
  | f :: fs, b, h => by
    unfold eqFs at h
    unfold Op.eqFields
    by_cases hn : f.name ≠ "_"
    · rw [if_pos hn] at h ⊢
      split at h <;> first | contradiction | skip
      rename_i a c ha hc
      have h3 : ∀ r, g f.type a c = some r → (Op.equalIn d f.type a c).run P w = .ok r w := fun r hr => hg _ _ _ _ hr
      split at h <;> first | contradiction | skip
      · rename_i hr
        simp only [Sem.run_bind, run_prt ha, run_prt hc, Result.andThen_ok, h3 _ hr, Bool.not_true, Bool.false_eq_true, if_false]
        exact run_eqFs hg xs ys fs b h
      · rename_i hr
        cases h
        simp only [Sem.run_bind, run_prt ha, run_prt hc, Result.andThen_ok, h3 _ hr, Bool.not_false, if_true, Sem.run_pure]
    · rw [if_neg hn] at h ⊢
      exact run_eqFs hg xs ys fs b h
theorem run_eqIs {d : Nat} {g : TypeId → Value → Value → Option Bool} (hg : ∀ t x y b, g t x y = some b → (Op.equalIn d t x y).run P w = .ok b w) (e : TypeId) (c : Nat) (xs ys : Array Value) :
    ∀ (is : List Nat) (b : Bool), eqIs P g e c xs ys is = some b → (Op.eqItems d e c xs ys is).run P w = .ok b w
  | [], b, h => by simp only [eqIs, Option.some.injEq] at h; subst h; rfl
  | i :: is, b, h => by
    unfold eqIs at h
    unfold Op.eqItems
    split at h <;> first | contradiction | skip
    rename_i a r ha hr
    have h3 : ∀ q, g e a r = some q → (Op.equalIn d e a r).run P w = .ok q w := fun q hq => hg _ _ _ _ hq
    split at h <;> first | contradiction | skip
    · rename_i hq
      simp only [Sem.run_bind, run_prt ha, run_prt hr, Result.andThen_ok, h3 _ hq, Bool.not_true, Bool.false_eq_true, if_false]
      exact run_eqIs hg e c xs ys is b h
    · rename_i hq
      cases h
      simp only [Sem.run_bind, run_prt ha, run_prt hr, Result.andThen_ok, h3 _ hq, Bool.not_false, if_true, Sem.run_pure]
theorem run_eqD : ∀ (d k : Nat) (t : TypeId) (x y : Value) (b : Bool), eqD P d t x y = some b → (Op.equalIn (d + k) t x y).run P w = .ok b w
  | 0, _, _, _, _, _, h => by simp [eqD] at h
  | d + 1, k, t, x, y, b, h => by
    have hd : d + 1 + k = (d + k) + 1 := by omega
    rw [hd]
    unfold eqD at h
    split at h <;> first | contradiction | skip
    · rename_i ki k1 a k2 c hu
      split at h <;> first | contradiction | skip
      rename_i hk; subst hk; cases h
      exact run_equalIn_int w _ _ _ _ _ _ hu
    · rename_i a c hu
      cases h
      exact run_equalIn_bool' w _ _ _ _ hu
    · rename_i a c hu
      cases h
      rw [run_equalIn_string w _ _ _ _ hu, beq_toListBytes]
    · rename_i fs xs ys hu
      split at h <;> first | contradiction | skip
      rename_i hs
      have hf : P.fieldsOf t = fs := by simp [Program.fieldsOf, hu]
      rw [run_equalIn_struct w _ _ _ _ (by rw [hf]; exact hu) (by simpa using hs), hf]
      exact run_eqFs (fun t x y b hb => run_eqD d k t x y b hb) xs ys _ _ h
    · rename_i n e xs ys hu
      split at h <;> first | contradiction | skip
      rename_i hs
      obtain ⟨i, hi⟩ : ∃ i, P.info? e = some i := by
        cases hx : P.info? e with
        | none => rw [hx] at hs; exact absurd rfl hs
        | some i => exact ⟨i, rfl⟩
      rw [run_equalIn_array w (d + k) xs ys hu hi]
      exact run_eqIs (fun t x y b hb => run_eqD d k t x y b hb) e _ xs ys _ _ h
theorem eqA_spec {t : TypeId} {xs ys : Array Value} {b : Bool} (h : eqA P t xs ys = some b) : P.eqGuardType P.depth t = false ∧ (Op.equalIn 10000 t (.agg xs) (.agg ys)).run P w = .ok b w := by
  unfold eqA at h
  split at h <;> first | contradiction | skip
  rename_i hg
  exact ⟨by simpa using hg, run_eqD 4 9996 t _ _ b h⟩

theorem run_ib {op : BinOp} {k : IntKind} {a b : Int} {v : Value} (t : TypeId) (hs : op ≠ .shl ∧ op ≠ .shr) (h : ib op k a b = some v) :
    (binOp op t (.int k a) (.int k b)).run P w = .ok v w := by
  unfold ib at h
  cases op <;> simp_all [binOp, Op.intArith, Op.intDiv, Op.intCmp]

theorem run_sb {op : BinOp} {x y : ByteArray} {v : Value} (t : TypeId) (h : sb op x y = some v) :
    (binOp op t (.string x) (.string y)).run P w = .ok v w := by
  unfold sb at h
  cases op <;> simp_all [binOp, Op.stringOp]

theorem run_bin {op : BinOp} {t : TypeId} {x y : Value} {v : Value} (h : bin P op t x y = some v) : (binOp op t x y).run P w = .ok v w := by
  unfold bin at h
  split at h
  · split at h
    · rename_i hk; obtain ⟨rfl, hs⟩ := hk; exact run_ib t hs h
    · cases h
  · exact run_sb t h
  · split at h <;> first | contradiction | skip
    · simp only [Option.map_eq_some_iff] at h
      obtain ⟨b, hb, rfl⟩ := h
      rw [run_eql_struct, (eqA_spec hb).2]; rfl
    · simp only [Option.map_eq_some_iff] at h
      obtain ⟨b, hb, rfl⟩ := h
      rw [run_neq_struct, (eqA_spec hb).2]; rfl
  · rename_i hi hs hag
    have hb : ∀ b, eqv (kd P t) x y = some b → (∀ k a, x ≠ .int k a) ∧ (∀ k a, x ≠ .float k a) ∧ (∀ k a b, x ≠ .complex k a b) ∧ (∀ a, x ≠ .string a) := by
      intro b hb
      refine ⟨fun k a e => ?_, fun k a e => ?_, fun k a b e => ?_, fun a e => ?_⟩ <;> subst e <;> (unfold eqv at hb; split at hb <;> first | contradiction | cases hb)
    split at h
    · simp only [Option.map_eq_some_iff] at h
      obtain ⟨b, hb', rfl⟩ := h
      obtain ⟨h1, h2, h3, h4⟩ := hb b hb'
      have hq := run_eqv (w := w) hb'
      cases x <;> first | exact (h1 _ _ rfl).elim | exact (h2 _ _ rfl).elim | exact (h3 _ _ _ rfl).elim | exact (h4 _ rfl).elim | simp [binOp, hq]
    · simp only [Option.map_eq_some_iff] at h
      obtain ⟨b, hb', rfl⟩ := h
      obtain ⟨h1, h2, h3, h4⟩ := hb b hb'
      have hq := run_eqv (w := w) hb'
      cases x <;> first | exact (h1 _ _ rfl).elim | exact (h2 _ _ rfl).elim | exact (h3 _ _ _ rfl).elim | exact (h4 _ rfl).elim | simp [binOp, hq]
    · cases h

theorem run_guard {op : BinOp} {t : TypeId} {x y : Operand} {a b : Value} {v : Value} (h : bin P op t a b = some v) : (eqGuard op t x y a b).run P w = .ok () w := by
  have h1 : ¬ (a = .nilIface ∧ b = .nilIface) := by
    rintro ⟨rfl, rfl⟩
    unfold bin at h
    simp only at h
    split at h <;> simp [eqv] at h
  by_cases h2 : ∃ c d, a = .agg c ∧ b = .agg d
  · obtain ⟨c, d, rfl, rfl⟩ := h2
    unfold bin at h
    simp only at h
    split at h <;> first | contradiction | skip
    · simp only [Option.map_eq_some_iff] at h
      obtain ⟨b, hb, rfl⟩ := h
      exact run_eqGuard_agg w _ _ _ _ _ _ (eqA_spec (w := w) hb).1
    · simp only [Option.map_eq_some_iff] at h
      obtain ⟨b, hb, rfl⟩ := h
      exact run_eqGuard_agg w _ _ _ _ _ _ (eqA_spec (w := w) hb).1
  · have h2 : ∀ c d, ¬ (a = .agg c ∧ b = .agg d) := fun c d he => h2 ⟨c, d, he⟩
    unfold eqGuard
    cases a <;> cases b <;> first | exact absurd ⟨rfl, rfl⟩ h1 | exact absurd ⟨rfl, rfl⟩ (h2 _ _) | (simp only []; split <;> simp)
end
end Go.Proofs.YtdbgeahmhfocaaaGreat
