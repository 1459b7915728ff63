/- More rules for the walk: what is indexed, sliced, measured, converted, made. -/
import Derived.Test.YtdbgeahmhfocaaaGreatEngS
namespace Go.Proofs.YtdbgeahmhfocaaaGreat
set_option linter.unusedSimpArgs false
set_option linter.unusedVariables false
open Go Go.RowKit

section
variable {P : Program} {B : World} {σ : St} {e : Fr} {t : TypeId} {d : Option Tmp} {K : Fr → St → Prop} {k k' : IntKind}
attribute [go_sem] decide_eq_true_eq beq_true beq_false Int.toNat_natCast Nat.mul_one Nat.one_mul Nat.zero_mul Nat.mul_zero Nat.add_zero

@[go_sem] theorem rdK_none {b o : Nat} : rdK B b o none = if b < B.heap.size then B.cell? ⟨b, o, none⟩ else none := rfl

/-- A call that leaves all as it was, by its contract. -/
theorem effD_quiet {ops : Array Oper} {i : Nat} {rest : List Oper} {X : DC → Fr → St → Prop} {rn : Bool} {e0 : Fr} {f : Operand} {as : List Operand} {ts : Array TypeId} {ty : TypeId} {pos : String} {af : Array Edge} {g : Option (Nat × Bool)} (v : Value)
    (hq : ∀ m, σ.n ≤ m → FnV P B (ev e f) (as.map (ev e)).toArray (σ.up m) fun v' σ' => v' = v ∧ ∃ m', m ≤ m' ∧ σ' = σ.up m') (h : X ⟨true, rn, e0⟩ (e.put d v) σ) :
    effD P B ops i ⟨d, .call ⟨.value f, as.toArray, ts⟩, ty, pos, af, g⟩ rest K X ⟨true, rn, e0⟩ e σ :=
  effD_call ⟨f, as.toArray, ts, rfl, fun m hm => by simpa using hq m hm⟩ h

/-- A loop's end by one way out, 'exit id', is spoken of once. -/
def exQ (id : Nat) (J : Fr → St → Prop) (Q : Exit → Fr → St → Prop) : Exit → Fr → St → Prop
  | .exit j, e, σ => if j = id then J e σ else Q (.exit j) e σ
  | x, e, σ => Q x e σ
@[go_sem] theorem exQ_exit {id j : Nat} {J : Fr → St → Prop} {Q : Exit → Fr → St → Prop} : exQ id J Q (.exit j) e σ = if j = id then J e σ else Q (.exit j) e σ := rfl
@[go_sem] theorem exQ_ret {id : Nat} {J : Fr → St → Prop} {Q : Exit → Fr → St → Prop} : exQ id J Q .ret e σ = Q .ret e σ := rfl
theorem loop_rule' {r : Option Nat} {n : Nat} {c : Code} {Q : Exit → Fr → St → Prop} (I : Nat → Fr → St → Prop) (m : Nat) (id : Nat) (J : Fr → St → Prop) (h0 : I m e σ)
    (hr : ∀ m e σ, σ.wf B → I m e σ → wpS P B r n c (thenQ (fun e' σ' => ∃ m', m' < m ∧ I m' e' σ') (exQ id J Q)) e σ)
    (hJ : ∀ e σ, σ.wf B → J e σ → Q (.exit id) e σ) : LoopS P B r n c Q e σ := by
  intro hmix hok a w ha hw
  refine wpIn_mono (loop_rule (Q := exQ id J Q) I m h0 hr hmix hok a w ha hw) ?_
  rintro x a' w' ⟨e', σ', ha', hw', h⟩
  refine ⟨e', σ', ha', hw', ?_⟩
  cases x with
  | exit j =>
    simp only [exQ] at h
    split at h
    · rename_i e1; subst e1; exact hJ _ _ hw'.wf h
    · exact h
  | _ => exact h

@[go_sem] theorem bne_tf : (true != false) = true := rfl
@[go_sem] theorem bne_ft : (false != true) = true := rfl
@[go_sem] theorem boolOf_undef : boolOf undef = none := rfl
@[go_sem] theorem none_beq_bool {b : Bool} : ((none : Option Bool) == some b) = false := rfl
@[go_sem] theorem bne_f {b : Bool} : (b != false) = b := by cases b <;> rfl
@[go_sem] theorem bne_t {b : Bool} : (b != true) = !b := by cases b <;> rfl

def ixS (b o n : Nat) (i : Int) : Option (Option Nat × Nat × Bool) → Option Value
  | some (none, s, _) => if 0 ≤ i ∧ i < n then some (.pointer (some ⟨b, o + i.toNat * s, none⟩)) else none
  | _ => none
@[go_sem] theorem ixa_slice {b o n c : Nat} {i : Int} : ixa P t (.slice (some ⟨b, o, none⟩) n c) (.int k i) = ixS b o n i (ik P t) := by
  unfold ixa ixS
  cases ik P t with
  | none => rfl
  | some x =>
    obtain ⟨y, s, g⟩ := x
    cases y with
    | none => simp [add_none]
    | some y => rfl
@[go_sem] theorem ixS_some {b o n s : Nat} {i : Int} {g : Bool} : ixS b o n i (some (none, s, g)) = if 0 ≤ i ∧ i < n then some (.pointer (some ⟨b, o + i.toNat * s, none⟩)) else none := rfl
def ixR (b o : Nat) (i : Int) : Option (Option Nat × Nat × Bool) → Option Value
  | some (some n, s, _) => if 0 ≤ i ∧ i < n then some (.pointer (some ⟨b, o + i.toNat * s, none⟩)) else none
  | _ => none
@[go_sem] theorem ixa_array {b o : Nat} {i : Int} : ixa P t (.pointer (some ⟨b, o, none⟩)) (.int k i) = ixR b o i (ik P t) := by
  unfold ixa ixR
  cases ik P t with
  | none => rfl
  | some x =>
    obtain ⟨y, s, g⟩ := x
    cases y with
    | none => rfl
    | some y => simp [add_none]
@[go_sem] theorem ixR_some {b o n s : Nat} {i : Int} {g : Bool} : ixR b o i (some (some n, s, g)) = if 0 ≤ i ∧ i < n then some (.pointer (some ⟨b, o + i.toNat * s, none⟩)) else none := rfl

def fldA (cs : Array Value) : Option (Nat × Option Nat) → Option Value
  | some (off, some n) => some (.agg (cs.extract off (off + n)))
  | some (off, none) => cs[off]?
  | none => none
@[go_sem] theorem fld_agg {f : Nat} {cs : Array Value} : fld P t f (.agg cs) = fldA cs (fk P t f) := by
  unfold fld fldA
  cases fk P t f with
  | none => rfl
  | some x => obtain ⟨a, b⟩ := x; cases b <;> rfl
@[go_sem] theorem fldA_one {cs : Array Value} {off : Nat} : fldA cs (some (off, none)) = cs[off]? := rfl
@[go_sem] theorem fldA_lit {l : List Value} {off : Nat} : fldA l.toArray (some (off, none)) = nthV l off := by simp [fldA, nthV_eq]
def subL : List Value → Nat → Nat → List Value
  | _, _, 0 => []
  | [], _, _ => []
  | v :: l, 0, n + 1 => v :: subL l 0 n
  | _ :: l, o + 1, n => subL l o n
theorem subL_eq : ∀ (l : List Value) (o n : Nat), subL l o n = (l.drop o).take n
  | [], o, n => by cases n <;> simp [subL]
  | v :: l, o, 0 => by cases o <;> simp [subL]
  | v :: l, 0, n + 1 => by simp [subL, subL_eq l 0 n]
  | v :: l, o + 1, n + 1 => by simp [subL, subL_eq l o (n + 1)]
@[go_sem] theorem fldA_sub {l : List Value} {off n : Nat} : fldA l.toArray (some (off, some n)) = some (.agg (subL l off n).toArray) := by
  simp [fldA, subL_eq, List.extract_eq_take_drop]
@[go_sem] theorem subL_zero {l : List Value} {o : Nat} : subL l o 0 = [] := by simp [subL_eq]
@[go_sem] theorem subL_take {v : Value} {l : List Value} {n : Nat} : subL (v :: l) 0 (n + 1) = v :: subL l 0 n := rfl
@[go_sem] theorem subL_drop {v : Value} {l : List Value} {o n : Nat} : subL (v :: l) (o + 1) n = subL l o n := by simp [subL_eq]

@[go_sem] theorem ixv_string {s : ByteArray} {i : Int} : ixv P t (.string s) (.int k i) = if kd P t = .string ∧ 0 ≤ i then (s[i.toNat]?).map fun b => .int .u8 b.toNat else none := rfl

@[go_sem] theorem len_slice {a : Option Addr} {n c : Nat} : bi P σ .len #[t] [.slice a n c] = if kd P t = .slice then some (.int .i64 n) else none := rfl
@[go_sem] theorem len_string {s : ByteArray} : bi P σ .len #[t] [.string s] = if kd P t = .string then some (.int .i64 s.size) else none := rfl
@[go_sem] theorem len_map_nil : bi P σ .len #[t] [.map none] = if kd P t = .map then some (.int .i64 0) else none := rfl
def lenM : Option HP → Option Value
  | some (.raw (.map es _)) => some (.int .i64 es.size)
  | _ => none
@[go_sem] theorem len_map {r : Nat} : bi P σ .len #[t] [.map (some r)] = if kd P t = .map then lenM (σ.m r) else none := by
  simp only [bi]; simp only [Array.getElem?_eq_getElem, List.size_toArray, List.length_singleton, Nat.lt_one_iff, List.getElem_toArray, List.getElem_cons_zero]; rfl
@[go_sem] theorem lenM_raw {es : Array MapEntry} {c : Nat} : lenM (some (.raw (.map es c))) = some (.int .i64 es.size) := rfl
@[go_sem] theorem cap_slice {a : Option Addr} {n c : Nat} : bi P σ .cap #[t] [.slice a n c] = if kd P t = .slice then some (.int .i64 c) else none := rfl
@[go_sem] theorem max_int {ts : Array TypeId} {x y : Int} : bi P σ .max ts [.int k x, .int k' y] = some (.int k (max x y)) := by
  simp only [bi, fold2, mx2, Option.bind_some]; congr 2; omega
@[go_sem] theorem min_int {ts : Array TypeId} {x y : Int} : bi P σ .min ts [.int k x, .int k' y] = some (.int k (min x y)) := by
  simp only [bi, fold2, mn2, Option.bind_some]; congr 2; omega

def cvI (n : Int) : Kd → Kd → Option Value
  | .int k, .int _ => some (.int k (k.wrap n))
  | _, _ => none
@[go_sem] theorem cv_int {s d : TypeId} {n : Int} : cv P s d (.int k n) = cvI n (kd P d) (kd P s) := by
  unfold cv cvI
  cases kd P d <;> cases kd P s <;> rfl
@[go_sem] theorem cvI_int {n : Int} : cvI n (.int k) (.int k') = some (.int k (k.wrap n)) := rfl
@[go_sem] theorem wrap_u8 {x : Int} (h : 0 ≤ x ∧ x ≤ 255) : IntKind.u8.wrap x = x := by
  simp only [IntKind.wrap, IntKind.bits, IntKind.signed]
  simp
  omega
@[go_sem] theorem wrap_u16 {x : Int} (h : 0 ≤ x ∧ x ≤ 65535) : IntKind.u16.wrap x = x := by
  simp only [IntKind.wrap, IntKind.bits, IntKind.signed]
  simp
  omega

/-- 'make', its numbers known. -/
def zc (z : Value) (n : Nat) : Array Value := zcells z.cells n
def mkR (P : Program) (l c : Int) (d : Option Tmp) (K : Fr → St → Prop) (e : Fr) (σ : St) : Option (TypeId × Nat × Nat) → Prop
  | some (t, s, b) => (0 ≤ l ∧ l ≤ c ∧ c < 2 ^ 62 ∧ b * c ≤ 2 ^ 48) ∧ bindK (zr P t) fun z => K (e.put d (.slice (some ⟨σ.n, 0, none⟩) l.toNat c.toNat)) ((σ.set σ.n (.raw (.cells (zc z (c.toNat * s)) t (0, 0)))).up (σ.n + 1))
  | none => False
@[go_sem] theorem mkK_eq {l c : Int} : mkK P t (.int k l) (.int k' c) d K e σ = mkR P l c d K e σ (se P t) := by
  unfold mkK mkS mkR
  cases se P t with
  | none => rfl
  | some x =>
    obtain ⟨u, s, b⟩ := x
    simp only
    congr 1
    have : ∀ z : Value, (if c.toNat * s = 0 then (#[] : Array Value) else zcells z.cells (c.toNat * s)) = zc z (c.toNat * s) := fun z => by
      by_cases h : c.toNat * s = 0
      · simp [h, zc, zcells]
      · simp [h, zc]
    simp only [this]; rfl
theorem mkR_some {l c : Int} {s b : Nat} (h : 0 ≤ l ∧ l ≤ c ∧ c < 2 ^ 62 ∧ b * c ≤ 2 ^ 48) :
    mkR P l c d K e σ (some (t, s, b)) = bindK (zr P t) fun z => K (e.put d (.slice (some ⟨σ.n, 0, none⟩) l.toNat c.toNat)) ((σ.set σ.n (.raw (.cells (zc z (c.toNat * s)) t (0, 0)))).up (σ.n + 1)) := by
  show (_ ∧ _) = _
  simp only [h, and_self, true_and]
attribute [go_sem] mkR_some
theorem zc_one {z : Value} (h : z.cells = #[z]) (n : Nat) : zc z n = Array.replicate n z := by
  apply Array.ext
  · simp [zc, zcells]
  · intro i h1 h2
    simp [zc, zcells, h, Nat.mod_one]
end
end Go.Proofs.YtdbgeahmhfocaaaGreat
