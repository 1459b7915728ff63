/- What an operation, a call, a piece of code comes to, by the view of memory. -/
import Derived.Test.YtdbgeahmhfocaaaGreatEngC
import Derived.Deep.AppendSrc
namespace Go.Proofs.YtdbgeahmhfocaaaGreat
set_option linter.unusedSimpArgs false
set_option linter.unusedVariables false
open Go Go.RowKit

/-! ### Conditions that a walk meets; each is simplified in its head alone -/
def bindK {α : Type} (x : Option α) (K : α → Prop) : Prop := ∃ v, x = some v ∧ K v
theorem bindK_congr {α : Type} {x x' : Option α} {K : α → Prop} (h : x = x') : bindK x K = bindK x' K := by rw [h]
theorem bindK_some {α : Type} (v : α) (K : α → Prop) : bindK (some v) K = K v := by simp [bindK]
theorem bindK_none {α : Type} (K : α → Prop) : bindK none K = False := by simp [bindK]

def br (b : Bool) (x y : Prop) : Prop := (b = true → x) ∧ (b = false → y)
theorem br_congr {b b' : Bool} {x y : Prop} (h : b = b') : br b x y = br b' x y := by rw [h]
theorem br_true (x y : Prop) : br true x y = x := by simp [br]
theorem br_false (x y : Prop) : br false x y = y := by simp [br]
theorem br_intro {b : Bool} {x y : Prop} (h : b = true → x) (h' : b = false → y) : br b x y := ⟨h, h'⟩


section
variable (P : Program) (B : World)

/-- A call's end: it has returned 'v', and the world is as the view says. -/
def retP (K : Value → St → Prop) : Ending → World → Prop := fun e w' => ∃ v σ', e = .returned v ∧ Rel B w' σ' ∧ K v σ'

/-- **A CALL OF FUNCTION 'f'**, whatever world the view speaks of. -/
def Fn (f : FuncId) (args : Array Value) (σ : St) (K : Value → St → Prop) : Prop :=
  (∃ fn, P.funcs[f]? = some fn ∧ (fn.name == "runtime.NumGoroutine") = false ∧ fn.body.isSome = true) ∧ ∀ w, Rel B w σ → Calls P f args w (retP B K)

/-- One round of a range over a function: what 'yield' comes to. -/
def Rd (l : Nat) (args : Array Value) (σ : St) (K : Value → St → Prop) : Prop :=
  ∃ r, σ.m l = some (.raw (.loop r)) ∧ args.size = r.params.size ∧
    ∀ w, Rel B w σ → RoundIn Fence.wide 0 P l r.fn ((r.params.zip args).foldl (fun tmps (t, a) => tmps.setIfInBounds t a) r.tmps) r.assign r.body w (retP B K)

/-- A call of a function value. -/
def FnV (g : Value) (args : Array Value) (σ : St) (K : Value → St → Prop) : Prop :=
  match g with
  | .func (.func f) first cap => Fn P B f (first ++ args ++ cap) σ K
  | .func (.yield l) first _ => Rd P B l (first ++ args) σ K
  | _ => False

def NextR (r : Result Next) (K : Value → St → Prop) : Prop :=
  match r with
  | .ok (.value v) w' => ∃ σ', Rel B w' σ' ∧ K v σ'
  | .ok .skip w' => ∃ σ', Rel B w' σ' ∧ K undef σ'
  | .ok (.enter f args) w' => Calls P f args w' (retP B K)
  | .ok (.round l f tmps assign body) w' => RoundIn Fence.wide 0 P l f tmps assign body w' (retP B K)
  | _ => False

def OpK (p : Op) (ty : TypeId) (ρ : Operand → Value) (σ : St) (K : Value → St → Prop) : Prop :=
  ∀ w, Rel B w σ → NextR P B ((execOp ρ { dst := none, op := p, type := ty, pos := "", after := #[], guard := none }).run P w) K
end

section
variable {P : Program} {B : World} {σ : St}

theorem Fn.mono {f : FuncId} {args : Array Value} {K K' : Value → St → Prop} (h : Fn P B f args σ K) (hk : ∀ v σ', K v σ' → K' v σ') : Fn P B f args σ K' :=
  ⟨h.1, fun w hw => (h.2 w hw).mono fun _ _ ⟨v, σ', e, r, k⟩ => ⟨v, σ', e, r, hk v σ' k⟩⟩
/-- The end may be seen by another view that every such world agrees with. -/
theorem Fn.conseq {f : FuncId} {args : Array Value} {K K' : Value → St → Prop} (h : Fn P B f args σ K) (hk : ∀ v σ', K v σ' → ∃ σ'', To B σ' σ'' ∧ K' v σ'') : Fn P B f args σ K' :=
  ⟨h.1, fun w hw => (h.2 w hw).mono fun _ w' ⟨v, σ', e, r, k⟩ => let ⟨σ'', t, k'⟩ := hk v σ' k; ⟨v, σ'', e, t w' r, k'⟩⟩
theorem Fn.from {f : FuncId} {args : Array Value} {K : Value → St → Prop} {σ' : St} (t : To B σ σ') (h : Fn P B f args σ' K) : Fn P B f args σ K :=
  ⟨h.1, fun w hw => h.2 w (t w hw)⟩
theorem Fn.wf {f : FuncId} {args : Array Value} {K : Value → St → Prop} (he : ∃ fn, P.funcs[f]? = some fn ∧ (fn.name == "runtime.NumGoroutine") = false ∧ fn.body.isSome = true)
    (h : σ.wf B → Fn P B f args σ K) : Fn P B f args σ K :=
  ⟨he, fun w hw => (h hw.wf).2 w hw⟩

theorem run_callFunc_en {f : FuncId} {args : Array Value} {w : World} (he : ∃ fn, P.funcs[f]? = some fn ∧ (fn.name == "runtime.NumGoroutine") = false ∧ fn.body.isSome = true) :
    (callFunc f args).run P w = .ok (.enter f args) w := by
  obtain ⟨fn, h1, h2, h3⟩ := he
  have h4 : fn.body.isNone = false := by cases hb : fn.body <;> simp_all
  simp only [callFunc, Sem.run_bind, run_program, Result.andThen_ok, h1, h2, h4, Bool.false_eq_true, if_false, Sem.run_pure]

/-- A call of a function value, as an operation. -/
theorem opK_call {g : Operand} {as : Array Operand} {ts : Array TypeId} {ty : TypeId} {ρ : Operand → Value} {K : Value → St → Prop} (h : FnV P B (ρ g) (as.map ρ) σ K) :
    OpK P B (.call ⟨.value g, as, ts⟩) ty ρ σ K := by
  intro w hw
  unfold FnV at h
  split at h <;> first | contradiction | skip
  · rename_i f first cap hg
    have hc := run_callFunc_en (args := first ++ as.map ρ ++ cap) (w := w) h.1
    simp only [execOp, resolve, Sem.run_bind, hg, Deferred.ofValue, Sem.run_pure, Result.andThen_ok, invoke]
    rw [hc]
    exact h.2 w hw
  · rename_i l first cap hg
    obtain ⟨r, hm, hsz, hr⟩ := h
    have hl := hw.raw hm
    simp only [execOp, resolve, Sem.run_bind, hg, Deferred.ofValue, Sem.run_pure, Result.andThen_ok, invoke, Instr.yield, Instr.getLoop, getObj, Sem.run, hl]
    simp only [ne_eq, hsz, not_true_eq_false, if_false, Sem.run_pure]
    exact hr w hw
end

/-! ### Effects -/
/-- The cells written from an index on. -/
def wrl (c : Array Value) : Nat → List Value → Array Value
  | _, [] => c
  | i, v :: vs => wrl (c.setIfInBounds i v) (i + 1) vs

/-- The view behind a store of some cells: the block is one of its own, laid open, and nothing of it is frozen. -/
def wrs (σ : St) (a : Addr) (vs : List Value) : Option St :=
  match σ.m a.block with
  | some (.raw (.cells c ty (0, 0))) => if a.spot = none ∧ a.off + vs.length ≤ c.size ∧ vs.all Value.oneCell' = true then some (σ.set a.block (.raw (.cells (wrl c a.off vs) ty (0, 0)))) else none
  | _ => none

def stv (P : Program) (σ : St) (t : TypeId) (x v : Value) : Option St :=
  match x, tk P t with
  | .pointer (some a), some (_, n) => if v.cells.size = n then wrs σ a v.cells.toList else none
  | _, _ => none

/-- So many cells, each the zero value of the element type in turn. -/
def zcells (zero : Array Value) (n : Nat) : Array Value := (Array.range n).map (zero[· % zero.size]!)

/-- The type of a slice's elements: the type, an element's cells, its bytes. -/
def se (P : Program) (t : TypeId) : Option (TypeId × Nat × Nat) :=
  match P.underlying t with
  | some (.slice e) => (P.info? e).map fun i => (e, i.size, i.bytes)
  | _ => none

section
variable {P : Program} {B w : World} {σ : St}

theorem add_none {a : Addr} {i : Nat} (h : a.spot = none) : a.add i = ⟨a.block, a.off + i, none⟩ := by
  obtain ⟨b, o, s⟩ := a
  simp only at h
  subst h
  unfold Addr.add
  split
  · rename_i e; subst e; rfl
  · rfl

theorem setCell_eq {b o : Nat} {v : Value} {c : Array Value} {ty : TypeId} {fz : Nat × Nat} (h : w.heap[b]? = some (.cells c ty fz)) :
    w.setCell ⟨b, o, none⟩ v = { w with heap := w.heap.setIfInBounds b (.cells (c.setIfInBounds o v) ty fz) } := by
  have hb : b < w.heap.size := (Array.getElem?_eq_some_iff.1 h).1
  have he : w.heap[b] = .cells c ty fz := by simpa [Array.getElem?_eq_getElem hb] using h
  unfold World.setCell
  congr 1
  apply Array.ext
  · simp
  · intro i h1 h2
    simp only [Array.getElem_modify, Array.getElem_setIfInBounds]
    split
    · rename_i e; subst e; simp [he]
    · rename_i e; rw [Array.getElem_setIfInBounds_ne _ e]

theorem run_storeCells {t : TypeId} {a : Addr} (hs : a.spot = none) : ∀ (vs : List Value) (i : Nat) (σ : St) (w : World) (c : Array Value), Rel B w σ →
    σ.m a.block = some (.raw (.cells c t (0, 0))) → a.off + i + vs.length ≤ c.size → vs.all Value.oneCell' = true →
    ∃ w', (storeCells a vs i).run P w = .ok () w' ∧ Rel B w' (σ.set a.block (.raw (.cells (wrl c (a.off + i) vs) t (0, 0))))
  | [], i, σ, w, c, h, hm, hl, hv => ⟨w, by simp [storeCells], by
      have : σ.set a.block (.raw (.cells c t (0, 0))) = σ := by
        simp only [St.set]
        congr 1
        funext x
        split
        · rename_i e; rw [e, hm]
        · rfl
      simpa [wrl, this] using h⟩
  | v :: vs, i, σ, w, c, h, hm, hl, hv => by
    simp only [List.all_cons, Bool.and_eq_true, List.length_cons] at hv hl
    have hr := h.raw hm
    have hadd : a.add i = ⟨a.block, a.off + i, none⟩ := add_none hs
    have hcell : w.cell? (a.add i) = some (c[a.off + i]'(by omega)) := by
      rw [hadd]; simp [World.cell?, hr]
    have hfz : w.frozen? (a.add i) = false := by
      rw [hadd]; simp [World.frozen?, hr]
    have hset := setCell_eq (w := w) (o := a.off + i) (v := v) hr
    have h1 := h.upd hm (.cells (c.setIfInBounds (a.off + i) v) t (0, 0))
    rw [← hset] at h1
    obtain ⟨w', hw', h2⟩ := run_storeCells (t := t) hs vs (i + 1) _ _ (c.setIfInBounds (a.off + i) v) h1 (by simp) (by simp; omega) hv.2
    refine ⟨w', ?_, ?_⟩
    · simp only [storeCells, Sem.run_bind, run_store P w (a.add i) v .plain hv.1, hcell, hfz, Bool.false_eq_true, if_false, Result.andThen_ok]
      rw [hadd]; exact hw'
    · simpa [wrl, Nat.add_assoc] using h2

theorem run_wrs (h : Rel B w σ) {a : Addr} {vs : List Value} {σ' : St} (hw : wrs σ a vs = some σ') : ∃ w', (storeCells a vs).run P w = .ok () w' ∧ Rel B w' σ' := by
  unfold wrs at hw
  split at hw <;> first | contradiction | skip
  rename_i c ty hm
  split at hw <;> first | contradiction | skip
  rename_i hb
  cases hw
  simpa using run_storeCells (P := P) hb.1 vs 0 σ w c h hm (by simpa using hb.2.1) hb.2.2

theorem opK_store {t : TypeId} {x v : Operand} {ty : TypeId} {ρ : Operand → Value} {K : Value → St → Prop} (h : bindK (stv P σ t (ρ x) (ρ v)) fun σ' => K undef σ') :
    OpK P B (.store t x v) ty ρ σ K := by
  intro w hw
  obtain ⟨σ', hs, hK⟩ := h
  unfold stv at hs
  split at hs <;> first | contradiction | skip
  rename_i a b n hx ht
  split at hs <;> first | contradiction | skip
  rename_i hn
  obtain ⟨d, i, hu, hi, hin, hag⟩ := tk_spec (w := w) ht
  obtain ⟨w', hw', h'⟩ := run_wrs (P := P) hw hs
  have : (execOp ρ { dst := none, op := .store t x v, type := ty, pos := "", after := #[], guard := none }).run P w = .ok .skip w' := by
    simp [execOp, Instr.storeAt, hx, Instr.sureAddr, storeVar, run_sz hi, hin, hn, hw']
  rw [this]
  exact ⟨σ', h', hK⟩

theorem opK_box {t : TypeId} {x : Operand} {ty : TypeId} {ρ : Operand → Value} {K : Value → St → Prop} (h : K (.pointer (some ⟨σ.n, 0, none⟩)) (σ.new (.cells (ρ x).cells t (0, 0)))) :
    OpK P B (.box t x) ty ρ σ K := by
  intro w hw
  have : (execOp ρ { dst := none, op := .box t x, type := ty, pos := "", after := #[], guard := none }).run P w =
      .ok (.value (.pointer (some ⟨w.heap.size, 0, none⟩))) { w with heap := w.heap.push (.cells (ρ x).cells t) } := by
    simp [execOp, Instr.box, newVar, newRow]
  rw [this, hw.size]
  exact ⟨_, hw.new _, h⟩

theorem opK_alloc {t : TypeId} {ty : TypeId} {ρ : Operand → Value} {K : Value → St → Prop} (h : bindK (zr P t) fun z => K (.pointer (some ⟨σ.n, 0, none⟩)) (σ.new (.cells z.cells t (0, 0)))) :
    OpK P B (.alloc t) ty ρ σ K := by
  intro w hw
  obtain ⟨z, hz, hK⟩ := h
  have : (execOp ρ { dst := none, op := .alloc t, type := ty, pos := "", after := #[], guard := none }).run P w =
      .ok (.value (.pointer (some ⟨w.heap.size, 0, none⟩))) { w with heap := w.heap.push (.cells z.cells t) } := by
    simp [execOp, Instr.alloc, run_zr hz, newVar, newRow]
  rw [this, hw.size]
  exact ⟨_, hw.new _, hK⟩

/-- 'make([]T, n)', 'make([]T, n, c)'. -/
def mkS (P : Program) (t : TypeId) (l c : Value) (σ : St) (K : Value → St → Prop) : Prop :=
  match l, c, se P t with
  | .int _ l, .int _ c, some (e, s, by_) => ((0 ≤ l ∧ l ≤ c ∧ c < 2 ^ 62 ∧ by_ * c ≤ 2 ^ 48)) ∧
      bindK (zr P e) fun z => K (.slice (some ⟨σ.n, 0, none⟩) l.toNat c.toNat) (σ.new (.cells (if c.toNat * s = 0 then #[] else zcells z.cells (c.toNat * s)) e (0, 0)))
  | _, _, _ => False

theorem wrap_i64 {x : Int} (h : -9223372036854775808 ≤ x ∧ x ≤ 9223372036854775807) : IntKind.i64.wrap x = x := by
  simp only [IntKind.wrap, IntKind.bits, IntKind.signed]
  simp
  omega

theorem opK_makeSlice {t : TypeId} {x y : Operand} {ty : TypeId} {ρ : Operand → Value} {K : Value → St → Prop} (h : mkS P t (ρ x) (ρ y) σ K) :
    OpK P B (.makeSlice t x y) ty ρ σ K := by
  intro w hw
  unfold mkS at h
  split at h <;> first | contradiction | skip
  rename_i k1 l k2 c e s bs hx hy hse
  obtain ⟨⟨h1, h2, h3, h4⟩, z, hz, hK⟩ := h
  unfold se at hse
  split at hse <;> first | contradiction | skip
  rename_i e' hu
  cases hi : P.info? e' with
  | none => simp [hi] at hse
  | some i =>
    simp only [hi, Option.map_some, Option.some.injEq, Prod.mk.injEq] at hse
    obtain ⟨rfl, rfl, rfl⟩ := hse
    have hl : IntKind.i64.wrap l = l := wrap_i64 (by omega)
    have hc : IntKind.i64.wrap c = c := wrap_i64 (by omega)
    have hns : ¬ ((c < 0 ∨ 281474976710656 < (i.bytes : Int) * c) ∨ l < 0) := by omega
    have hns3 : ¬ c < l := by omega
    have : (execOp ρ { dst := none, op := .makeSlice t x y, type := ty, pos := "", after := #[], guard := none }).run P w =
        .ok (.value (.slice (some ⟨w.heap.size, 0, none⟩) l.toNat c.toNat)) { w with heap := w.heap.push (.cells (if c.toNat * i.size = 0 then #[] else zcells z.cells (c.toNat * i.size)) e') } := by
      simp only [execOp, Instr.makeSlice, Sem.run_bind, run_und hu, Result.andThen_ok, hx, hy, asInt, asIntOf, Sem.run_pure, run_tyi hi, hl, hc]
      rw [if_neg (by simpa [hns3] using hns)]
      simp only [Sem.run_pure, Result.andThen_ok, run_askRoom, Sem.run_bind, run_sz hi]
      by_cases h0 : c.toNat * i.size = 0
      · have hr : (Array.range 0).map (fun _ => (default : Value)) = #[] := by simp [Array.range]
        simp [h0, newRow, hr]
      · simp [h0, zcells, newRow, run_zr hz]
    rw [this, hw.size]
    exact ⟨_, hw.new _, hK⟩

/-- A literal slice: '[]T{..}'. -/
def bsl (P : Program) (t : TypeId) (n : Nat) (parts : List (Nat × Value)) (σ : St) (K : Value → St → Prop) : Prop :=
  bindK (se P t) fun (e, s, _) => bindK (zr P e) fun z => n * s ≤ 2 ^ 24 ∧
    bindK (Instr.fill (fun i => some (i * s, s)) (zcells z.cells (n * s)) parts) fun cs => K (.slice (some ⟨σ.n, 0, none⟩) n n) (σ.new (.cells cs e (0, 0)))

theorem se_spec {t e : TypeId} {s b : Nat} (h : se P t = some (e, s, b)) : ∃ i, P.underlying t = some (.slice e) ∧ P.info? e = some i ∧ i.size = s ∧ i.bytes = b := by
  unfold se at h
  split at h <;> first | contradiction | skip
  rename_i e' hu
  cases hi : P.info? e' with
  | none => simp [hi] at h
  | some i =>
    simp only [hi, Option.map_some, Option.some.injEq, Prod.mk.injEq] at h
    obtain ⟨rfl, rfl, rfl⟩ := h
    exact ⟨i, hu, hi, rfl, rfl⟩

theorem opK_buildSlice {t : TypeId} {n : Nat} {parts : Array (Nat × Operand)} {ty : TypeId} {ρ : Operand → Value} {K : Value → St → Prop}
    (h : bsl P t n (parts.toList.map fun (i, x) => (i, ρ x)) σ K) : OpK P B (.buildSlice t n parts) ty ρ σ K := by
  intro w hw
  obtain ⟨⟨e, s, b⟩, hse, z, hz, h24, cs, hf, hK⟩ := h
  obtain ⟨i, hu, hi, rfl, rfl⟩ := se_spec hse
  have hfill : Instr.fill (fun j => some (j * i.size, i.size)) ((Array.range (n * i.size)).map (z.cells[· % z.cells.size]!)) ((parts.map fun (i, x) => (i, ρ x)).toList) = some cs := by
    have : (parts.map fun (i, x) => (i, ρ x)).toList = parts.toList.map fun (i, x) => (i, ρ x) := by simp
    rw [this]; exact hf
  have : (execOp ρ { dst := none, op := .buildSlice t n parts, type := ty, pos := "", after := #[], guard := none }).run P w =
      .ok (.value (.slice (some ⟨w.heap.size, 0, none⟩) n n)) { w with heap := w.heap.push (.cells cs e) } := by
    simp only [execOp, Instr.buildSlice, Sem.run_bind, run_und hu, Result.andThen_ok, run_sz hi]
    rw [if_neg (by omega)]
    by_cases h0 : n * i.size = 0
    · have hr : (Array.range 0).map (fun x => (#[] : Array Value)[x % 0]!) = #[] := by simp [Array.range]
      have hr' : (Array.range 0).map (z.cells[· % z.cells.size]!) = #[] := by simp [Array.range]
      rw [if_pos h0]
      rw [h0, hr'] at hfill
      simp only [Sem.run_pure, Result.andThen_ok, Sem.run_bind, h0, List.size_toArray, List.length_nil, hr, hfill, newRow, run_newObj]
    · rw [if_neg h0]
      simp only [Sem.run_pure, Result.andThen_ok, Sem.run_bind, run_zr hz, hfill, newRow, run_newObj]
  rw [this, hw.size]
  exact ⟨_, hw.new _, hK⟩

/-! ### append -/
/-- What is appended: how many elements, and their cells. -/
def fc (B : World) (σ : St) (s : Nat) : Value → Option (Nat × List Value)
  | .slice (some a) n _ => (rds B σ a 0 (n * s)).map fun l => (n, l)
  | .slice none n _ => some (n, [])
  | .string b => some (b.size, b.data.toList.map fun c => .int .u8 c.toNat)
  | _ => none

theorem run_fc (h : Rel B w σ) {s n : Nat} {x : Value} {l : List Value} (hx : fc B σ s x = some (n, l)) :
    (∀ w' : World, (Builtin.lenOf x).run P w' = .ok n w') ∧ (Builtin.firstCells s n x).run P w = .ok l.toArray w := by
  unfold fc at hx
  split at hx <;> first | contradiction | skip
  · rename_i a m cap
    simp only [Option.map_eq_some_iff, Prod.mk.injEq] at hx
    obtain ⟨l', hl, rfl, rfl⟩ := hx
    refine ⟨fun _ => rfl, ?_⟩
    simp only [Builtin.firstCells, loadCells, run_loadCells h a _ 0 #[] _ hl, Array.empty_append]
  · cases hx; exact ⟨fun _ => rfl, rfl⟩
  · rename_i b
    cases hx
    refine ⟨fun _ => rfl, ?_⟩
    exact firstCells_string (P := P) b w

theorem nextcap_le (need cap : Nat) (h : cap < need) : Builtin.nextslicecap need cap ≤ 2 * need + 768 := by
  have grow : ∀ (r c : Nat), c ≤ 2 * need + 768 → Builtin.growBy need r c ≤ 2 * need + 768 := by
    intro r
    induction r with
    | zero => intro c hc; simpa [Builtin.growBy] using hc
    | succ r ih =>
      intro c hc
      simp only [Builtin.growBy]
      split
      · exact hc
      · exact ih _ (by omega)
  unfold Builtin.nextslicecap
  split
  · omega
  · split
    · omega
    · exact grow _ _ (by omega)

/-- 'append(s, x)'. -/
def appS (P : Program) (B : World) (σ : St) (t xt : TypeId) (sv xv : Value) (K : Value → St → Prop) : Prop :=
  ∃ base len cap e s b n ys z, sv = .slice base len cap ∧ se P t = some (e, s, b) ∧ (kd P xt = .string ∨ kd P xt = .slice) ∧ fc B σ s xv = some (n, ys) ∧ zr P e = some z ∧ b ≠ 0 ∧
    ys.length = n * s ∧ ys.all Value.oneCell' = true ∧
    (len + n ≤ cap → ∃ σ', (match base with | none => σ' = σ | some a => wrs σ (a.add (len * s)) ys = some σ') ∧ K (.slice base (len + n) cap) σ') ∧
    (cap < len + n → (2 * (len + n) + 768) * b ≤ 2 ^ 48 ∧ ∃ old, fc B σ s sv = some (len, old) ∧
      ∀ nc, len + n ≤ nc → K (.slice (some ⟨σ.n, 0, none⟩) (len + n) nc) (σ.new (.cells ((old ++ ys).toArray ++ Builtin.zeroCells z.cells (nc - (len + n))) e (0, 0))))

theorem opK_append {a x : Operand} {t xt : TypeId} {ty : TypeId} {ρ : Operand → Value} {K : Value → St → Prop} (h : appS P B σ t xt (ρ a) (ρ x) K) :
    OpK P B (.call ⟨.builtin .append, #[a, x], #[t, xt]⟩) ty ρ σ K := by
  intro w hw
  obtain ⟨base, len, cap, e, s, b, n, ys, z, hsv, hse, hxt, hfc, hz, hb0, hyl, hy1, hfit, hgrow⟩ := h
  obtain ⟨i, hu, hi, rfl, rfl⟩ := se_spec hse
  obtain ⟨hlen, hnew⟩ := run_fc (P := P) hw hfc
  have hnewD := (run_fc (P := P) (hw.drawn (w.drawn + 1)) hfc).2
  have hkind : (∃ e', P.underlying xt = some (.slice e')) ∨ P.underlying xt = some .string := by
    rcases hxt with hk | hk
    · obtain ⟨d, hd, hdd⟩ := kd_und hk (by simp)
      cases d <;> first | exact hdd.elim | exact .inr hd
    · obtain ⟨d, hd, hdd⟩ := kd_und hk (by simp)
      cases d <;> first | exact hdd.elim | exact .inl ⟨_, hd⟩
  have hz' : i.zero = some z := by simpa [zr, hi] using hz
  have hs : Src P i.size xt (ρ x) n ys w := ⟨hkind, hlen, hnew, hnewD, hyl, fun u hu => List.all_eq_true.1 hy1 u hu⟩
  have hbu : ∀ q, (builtin .append #[t, xt] ty q #[ρ a, ρ x]).run P w = ((Builtin.append_ #[t, xt] ty #[ρ a, ρ x]).run P w).andThen fun v w' => .ok (.value v) w' := by
    intro q; simp [builtin]
  have hex : (execOp ρ { dst := none, op := .call ⟨.builtin .append, #[a, x], #[t, xt]⟩, type := ty, pos := "", after := #[], guard := none }).run P w =
      ((Builtin.append_ #[t, xt] ty #[ρ a, ρ x]).run P w).andThen fun v w' => .ok (.value v) w' := by
    simp only [execOp, resolve, List.map_toArray, List.map_cons, List.map_nil, Sem.run_bind, Sem.run_pure, Result.andThen_ok, invoke]
    exact hbu _
  rw [hex, hsv]
  by_cases hf : len + n ≤ cap
  · obtain ⟨σ', hσ, hK⟩ := hfit hf
    cases base with
    | none =>
      subst hσ
      have : (Builtin.append_ #[t, xt] ty #[.slice none len cap, ρ x]).run P w = .ok (.slice none (len + n) cap) w := by
        rcases hkind with ⟨e', hk⟩ | hk <;> simp [Builtin.append_, run_underlying hu, run_underlying hk, sizeOf, typeInfo, hi, hlen, hf, hnew]
      rw [this]
      exact ⟨_, hw, hK⟩
    | some ad =>
      obtain ⟨w', hw', hr⟩ := run_wrs (P := P) hw hσ
      have : (Builtin.append_ #[t, xt] ty #[.slice (some ad) len cap, ρ x]).run P w = .ok (.slice (some ad) (len + n) cap) w' := by
        rcases hkind with ⟨e', hk⟩ | hk <;> simp [Builtin.append_, run_underlying hu, run_underlying hk, sizeOf, typeInfo, hi, hlen, hf, hnew, hw']
      rw [this]
      exact ⟨_, hr, hK⟩
  · obtain ⟨hsz, old, hold, hK⟩ := hgrow (by omega)
    have hold' := (run_fc (P := P) (hw.drawn (w.drawn + 1)) hold).2
    have hnc := nextcap_le (len + n) cap (by omega)
    have hle : Builtin.nextslicecap (len + n) cap * i.bytes ≤ 2 ^ 48 := Nat.le_trans (Nat.mul_le_mul_right _ hnc) hsz
    have h1 : 2 * (len + n) + 768 ≤ (2 * (len + n) + 768) * i.bytes := Nat.le_mul_of_pos_right _ (by omega)
    rw [hsv] at hold'
    rw [run_append_grow_src w t xt ty e i z hu hi hz' base len cap old hold' (ρ x) n ys hs (by omega) (by omega) hle]
    have hcap : len + n ≤ grownCap w (len + n) cap e := by simp only [grownCap, Question.cut]; omega
    have hsz' := hw.size
    have hr := (hw.drawn (w.drawn + 1)).new (.cells ((old ++ ys).toArray ++ Builtin.zeroCells z.cells (grownCap w (len + n) cap e - (len + n))) e)
    refine ⟨_, hr, ?_⟩
    rw [hsz']
    exact hK _ hcap

/-! ### Maps -/
theorem findNow_at {d : TypeDesc} {k : Value} : ∀ (es : List MapEntry) (j i : Nat) (v : Value), Instr.findNow d k es j = some (some (i, v)) → ∃ e, j ≤ i ∧ es[i - j]? = some e ∧ Instr.sameNow d k e.key = some true
  | [], _, _, _, h => by simp [Instr.findNow] at h
  | e :: es, j, i, v, h => by
    unfold Instr.findNow at h
    split at h
    · rename_i hs
      simp only [Option.some.injEq, Prod.mk.injEq] at h
      obtain ⟨rfl, _⟩ := h
      exact ⟨e, Nat.le_refl _, by simp, hs⟩
    · obtain ⟨e', h1, h2, h3⟩ := findNow_at es (j + 1) i v h
      refine ⟨e', by omega, ?_, h3⟩
      have : i - j = (i - (j + 1)) + 1 := by omega
      rw [this]; simpa using h2
    · cases h
theorem same_bits {d : TypeDesc} {k k' : Value} (h : Instr.sameNow d k k' = some true) (n : Nat) : Instr.sameBits n k' k = true := by
  unfold Instr.sameNow at h
  split at h <;> first | contradiction | skip
  · split at h <;> first | contradiction | skip
    rename_i e; subst e
    simp only [Option.some.injEq, beq_iff_eq] at h
    subst h
    cases n <;> simp [Instr.sameBits]
  · simp only [Option.some.injEq] at h
    rename_i a b
    have hab : (b == a) = true := by
      rw [beq_toListBytes] at h ⊢
      simp only [beq_iff_eq] at h ⊢
      exact h.symm
    cases n <;> simp [Instr.sameBits, hab]
  · simp only [Option.some.injEq, beq_iff_eq] at h
    subst h
    cases n <;> simp [Instr.sameBits]

/-- 'm[k] = v'. -/
def musK (d : TypeDesc) (r : Nat) (k v : Value) (σ : St) : Option HP → Option St
  | some (.raw (.map es c)) =>
    match Instr.findNow d k es.toList 0 with
    | some (some (i, _)) => some (σ.set r (.raw (.map (es.modify i fun e => { e with key := k, val := v }) c)))
    | some none => some (σ.set r (.raw (.map (es.push { key := k, val := v, born := c }) (c + 1))))
    | none => none
  | _ => none
def mus (P : Program) (σ : St) (t : TypeId) (m k v : Value) : Option St :=
  match P.underlying t, m with
  | some (.map key _), .map (some r) =>
    match P.underlying key with
    | some d => if plainKey d then musK d r k v σ (σ.m r) else none
    | none => none
  | _, _ => none

theorem opK_mapUpdate {t : TypeId} {m k v : Operand} {ty : TypeId} {ρ : Operand → Value} {K : Value → St → Prop} (h : bindK (mus P σ t (ρ m) (ρ k) (ρ v)) fun σ' => K undef σ') :
    OpK P B (.mapUpdate t m k v) ty ρ σ K := by
  intro w hw
  obtain ⟨σ', hs, hK⟩ := h
  unfold mus at hs
  split at hs <;> first | contradiction | skip
  rename_i key elem r hu hm
  split at hs <;> first | contradiction | skip
  rename_i d hd
  split at hs <;> first | contradiction | skip
  rename_i hp
  unfold musK at hs
  split at hs <;> first | contradiction | skip
  rename_i es c hr
  have hl := hw.raw hr
  have hset : ∀ o, (setObj r o).run P w = .ok () { w with heap := w.heap.setIfInBounds r o } := fun o => by simp only [setObj, Sem.run, hl]
  split at hs <;> first | contradiction | skip
  · rename_i i v0 hf
    cases hs
    obtain ⟨e, _, he, hsame⟩ := findNow_at _ _ _ _ hf
    have he' : es[i]? = some e := by simpa using he
    have : (execOp ρ { dst := none, op := .mapUpdate t m k v, type := ty, pos := "", after := #[], guard := none }).run P w =
        .ok .skip { w with heap := w.heap.setIfInBounds r (.map (es.modify i fun e => { e with key := ρ k, val := ρ v }) c) } := by
      simp [execOp, Instr.mapUpdate, run_und hu, hm, getObj, Sem.run, hl, run_checkKey hd hp, run_findKey hd hf, he', Instr.keyThatStays, same_bits hsame, hset]
    rw [this]
    exact ⟨_, hw.upd hr _, hK⟩
  · rename_i hf
    cases hs
    have : (execOp ρ { dst := none, op := .mapUpdate t m k v, type := ty, pos := "", after := #[], guard := none }).run P w =
        .ok .skip { w with heap := w.heap.setIfInBounds r (.map (es.push { key := ρ k, val := ρ v, born := c }) (c + 1)) } := by
      simp [execOp, Instr.mapUpdate, run_und hu, hm, getObj, Sem.run, hl, run_checkKey hd hp, run_findKey hd hf, hset]
    rw [this]
    exact ⟨_, hw.upd hr _, hK⟩

theorem opK_makeMap {t : TypeId} {ty : TypeId} {ρ : Operand → Value} {K : Value → St → Prop} (h : K (.map (some σ.n)) (σ.new (.map #[] 0))) : OpK P B (.makeMap t none) ty ρ σ K := by
  intro w hw
  have : (execOp ρ { dst := none, op := .makeMap t none, type := ty, pos := "", after := #[], guard := none }).run P w =
      .ok (.value (.map (some w.heap.size))) { w with heap := w.heap.push (.map #[] 0) } := by
    simp [execOp, Instr.makeMap]
  rw [this, hw.size]
  exact ⟨_, hw.new _, h⟩
end
end Go.Proofs.YtdbgeahmhfocaaaGreat
