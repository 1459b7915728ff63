/- Code by the view of memory: what a piece of a function's body comes to, in whatever order the machine draws. -/
import Derived.Test.YtdbgeahmhfocaaaGreatEngD
import Derived.StillTail
namespace Go.Proofs.YtdbgeahmhfocaaaGreat
set_option linter.unusedSimpArgs false
set_option linter.unusedVariables false
open Go Go.RowKit

/-! ### Frames -/
structure Fr where
  v : Nat → Value
  d : List Deferred

def ev (e : Fr) : Operand → Value
  | .tmp t => e.v t
  | .const v => v
  | .global g => .pointer (some ⟨g, 0, none⟩)
  | .func f => .func (.func f) #[] #[]

def Fr.put (e : Fr) (d : Option Tmp) (x : Value) : Fr :=
  match d with
  | some i => { e with v := fun t => if t = i then x else e.v t }
  | none => e

theorem ev_tmp (e : Fr) (t : Nat) : ev e (.tmp t) = e.v t := rfl
theorem ev_const (e : Fr) (v : Value) : ev e (.const v) = v := rfl
theorem ev_global (e : Fr) (g : Nat) : ev e (.global g) = .pointer (some ⟨g, 0, none⟩) := rfl
theorem ev_func (e : Fr) (f : FuncId) : ev e (.func f) = .func (.func f) #[] #[] := rfl
theorem put_none (e : Fr) (x : Value) : e.put none x = e := rfl
theorem put_same (e : Fr) (i : Nat) (x : Value) : (e.put (some i) x).v i = x := by simp [Fr.put]
theorem put_ne (e : Fr) {i t : Nat} (x : Value) (h : t ≠ i) : (e.put (some i) x).v t = e.v t := by simp [Fr.put, h]
theorem put_d (e : Fr) (i : Option Nat) (x : Value) : (e.put i x).d = e.d := by cases i <;> rfl

/-- The machine's frame is as 'e' says; it has 'n' slots. -/
structure Is (a : Act) (n : Nat) (e : Fr) : Prop where
  size : a.tmps.size = n
  v : ∀ t, a.tmps.getD t undef = e.v t
  d : a.defers = e.d

theorem Is.eval {a : Act} {n : Nat} {e : Fr} (h : Is a n e) : a.eval = ev e := by
  funext x
  cases x <;> first | rfl | exact h.v _

theorem Is.put {a : Act} {n : Nat} {e : Fr} (h : Is a n e) (d : Option Tmp) (x : Value) (hd : ∀ i, d = some i → i < n) : Is (a.put d x) n (e.put d x) := by
  cases d with
  | none => exact h
  | some i =>
    have hi := hd i rfl
    refine ⟨by simp [Act.put, h.size], fun t => ?_, h.d⟩
    by_cases e1 : t = i
    · subst e1; simp [Act.put, Fr.put, h.size, hi]
    · have := h.v t
      simp only [Array.getD_eq_getD_getElem?] at this
      simp [Act.put, Fr.put, e1, Array.getElem?_setIfInBounds_ne (Ne.symm e1), this]

def boolOf : Value → Option Bool
  | .bool b => some b
  | _ => none

/-- A guard's slot, and the outcome that it waits for. -/
def gd (ops : Array Oper) (o : Oper) (e : Fr) : Bool :=
  match o.guard with
  | none => true
  | some (j, want) => match (ops[j]?).bind (·.dst) with | some t => boolOf (e.v t) == some want | none => false

theorem boolOf_getD (x : Option Value) (want : Bool) : ((match x with | some (.bool b) => some b | _ => none : Option Bool) == some want) = (boolOf (x.getD undef) == some want) := by
  cases x with
  | none => rfl
  | some x => cases x <;> rfl

theorem wanted_gd {a : Act} {n : Nat} {e : Fr} (h : Is a n e) (ops : Array Oper) (o : Oper) : Region.wanted o (yielded ops a.tmps) = gd ops o e := by
  unfold Region.wanted gd
  cases o.guard with
  | none => rfl
  | some g =>
    obtain ⟨j, want⟩ := g
    simp only [yielded]
    cases (ops[j]?).bind (·.dst) with
    | none => rfl
    | some t =>
      simp only
      have := h.v t
      simp only [Array.getD_eq_getD_getElem?] at this
      rw [← this]
      exact boolOf_getD _ want

/-! ### One operation -/
def isQ : Op → Bool
  | .move _ | .assign _ | .pick .. | .nilCheck _ | .binOp .. | .unOp .. | .convert .. | .fieldAddr .. | .field .. | .indexAddr .. | .index .. | .extract .. | .slice .. | .load ..
  | .makeFunc .. | .build .. | .makeInterface .. | .lookup .. => true
  | .call c => match c.callee with | .builtin .len | .builtin .cap | .builtin .max | .builtin .min => true | _ => false
  | _ => false

section
variable (P : Program) (B : World)

/-- What is asked of an operation that writes, makes memory, or calls. -/
def effS (p : Op) (ty : TypeId) (ρ : Operand → Value) (σ : St) (K : Value → St → Prop) : Prop :=
  match p with
  | .store t a x => bindK (stv P σ t (ρ a) (ρ x)) fun σ' => K undef σ'
  | .alloc t => bindK (zr P t) fun z => K (.pointer (some ⟨σ.n, 0, none⟩)) (σ.new (.cells z.cells t (0, 0)))
  | .box t x => K (.pointer (some ⟨σ.n, 0, none⟩)) (σ.new (.cells (ρ x).cells t (0, 0)))
  | .makeSlice t l c => mkS P t (ρ l) (ρ c) σ K
  | .buildSlice t n parts => bsl P t n (parts.toList.map fun (i, x) => (i, ρ x)) σ K
  | .mapUpdate t m k x => bindK (mus P σ t (ρ m) (ρ k) (ρ x)) fun σ' => K undef σ'
  | .makeMap _ none => K (.map (some σ.n)) (σ.new (.map #[] 0))
  | .call c =>
    match c.callee with
    | .value f => FnV P B (ρ f) (c.args.map ρ) σ K
    | .builtin .append => (c.args.size = 2 ∧ c.argTypes.size = 2) ∧ appS P B σ (c.argTypes.getD 0 0) (c.argTypes.getD 1 0) (ρ (c.args.getD 0 (.func 0))) (ρ (c.args.getD 1 (.func 0))) K
    | _ => OpK P B p ty ρ σ K
  | p => OpK P B p ty ρ σ K

theorem two_lit {α : Type} {x : Array α} (h : x.size = 2) (d : α) : x = #[x.getD 0 d, x.getD 1 d] := by
  apply Array.ext
  · simp [h]
  · intro i h1 h2
    have : i = 0 ∨ i = 1 := by omega
    rcases this with rfl | rfl <;> simp [Array.getD, h]

theorem effS_sound {p : Op} {ty : TypeId} {ρ : Operand → Value} {σ : St} {K : Value → St → Prop} (h : effS P B p ty ρ σ K) : OpK P B p ty ρ σ K := by
  unfold effS at h
  split at h
  · exact opK_store h
  · exact opK_alloc h
  · exact opK_box h
  · exact opK_makeSlice h
  · exact opK_buildSlice h
  · exact opK_mapUpdate h
  · exact opK_makeMap h
  · rename_i c
    split at h
    · rename_i f hc
      obtain ⟨ce, as, ts⟩ := c
      simp only at hc h
      subst hc
      exact opK_call h
    · rename_i hc
      obtain ⟨ce, as, ts⟩ := c
      simp only at hc h
      subst hc
      obtain ⟨⟨h1, h2⟩, h⟩ := h
      rw [two_lit h1 (.func 0), two_lit h2 0]
      exact opK_append h
    · exact h
  · exact h

/-- A function value and its arguments, as a 'defer' statement lays them. -/
def dfr (g : Value) (args : Array Value) : Option Deferred :=
  match g with
  | .func fn first cap => some { target := .fn fn cap, args := first ++ args }
  | _ => none

/-- A value is there: it goes into its slot. -/
def stepQ (x : Option Value) (d : Option Tmp) (K : Fr → St → Prop) (e : Fr) (σ : St) : Prop := ∃ v, x = some v ∧ K (e.put d v) σ
/-- The next view is there. -/
def stepS (x : Option St) (d : Option Tmp) (K : Fr → St → Prop) (e : Fr) : Prop := ∃ σ', x = some σ' ∧ K (e.put d undef) σ'
def stepD (x : Option Deferred) (d : Option Tmp) (K : Fr → St → Prop) (e : Fr) (σ : St) : Prop := ∃ y, x = some y ∧ K (({ e with d := y :: e.d } : Fr).put d undef) σ
def skipK (d : Option Tmp) (K : Fr → St → Prop) (e : Fr) (σ : St) : Prop := K (e.put d undef) σ
/-- A branch. -/
def brS (b : Bool) (x y : Fr → St → Prop) (e : Fr) (σ : St) : Prop := (b = true → x e σ) ∧ (b = false → y e σ)
def brV (v : Value) (x y : Fr → St → Prop) (e : Fr) (σ : St) : Prop := match v with | .bool b => brS b x y e σ | _ => False

def opS (o : Oper) (K : Fr → St → Prop) (e : Fr) (σ : St) : Prop :=
  match isQ o.op with
  | true => stepQ (qv P B o.op (ev e) σ) o.dst K e σ
  | false =>
    match o.op with
    | .defer c => match c.callee with | .value f => stepD (dfr (ev e f) (c.args.map (ev e))) o.dst K e σ | _ => False
    | p => effS P B p o.type (ev e) σ fun v σ' => K (e.put o.dst v) σ'

def runL (ops : Array Oper) : List Oper → (Fr → St → Prop) → Fr → St → Prop
  | [], K, e, σ => K e σ
  | o :: rest, K, e, σ => brS (gd ops o e) (opS P B o (runL ops rest K)) (skipK o.dst (runL ops rest K)) e σ
end

/-- The fence of a frame: it is a round of range over a function 'l', or none. -/
def FR (r : Option Nat) : Fence := { Fence.wide with round := r }

theorem FR_room (r : Option Nat) (k : Nat) : (FR r).room k := fun _ h => by simp [FR, Fence.wide] at h

theorem callsIn_FR {r : Option Nat} {n : Nat} {P : Program} {f : FuncId} {args : Array Value} {w : World} {R : Ending → World → Prop} (h : Calls P f args w R) : CallsIn (FR r) n P f args w R :=
  (callsIn_wide (n := n)).2 h

section
variable {P : Program} {B : World} {σ : St}

theorem execOp_same (ρ : Operand → Value) (o : Oper) : execOp ρ { dst := none, op := o.op, type := o.type, pos := "", after := #[], guard := none } = execOp ρ o := by
  cases o; rfl

theorem NextR.upon {r : Option Nat} {o : Oper} {a : Act} {K : Value → St → Prop} {next : Act → World → Prop} {Q : Exit → Act → World → Prop} {x : Result Next}
    (h : NextR P B x K) (hn : ∀ v σ' w', Rel B w' σ' → K v σ' → next (a.put o.dst v) w') : o.uponIn (FR r) 0 P a next Q x := by
  unfold NextR at h
  split at h <;> first | contradiction | skip
  · obtain ⟨σ', hr, hK⟩ := h; exact hn _ _ _ hr hK
  · obtain ⟨σ', hr, hK⟩ := h; exact hn _ _ _ hr hK
  · refine ⟨fun h => by simp [FR, Fence.wide] at h, callsIn_FR (h.mono ?_)⟩
    rintro e w'' ⟨v, σ', rfl, hr, hK⟩
    exact hn _ _ _ hr hK
  · refine ⟨fun h => by simp [FR, Fence.wide] at h, RoundIn.mono (F := FR r) (R := retP B K) h ?_⟩
    rintro e w'' ⟨v, σ', rfl, hr, hK⟩
    exact hn _ _ _ hr hK

theorem isQ_defer {o : Oper} (h : ∃ c, o.op = .defer c) : isQ o.op = false := by obtain ⟨c, h⟩ := h; rw [h]; rfl

/-- An operation, in the machine's own words. -/
theorem opS_wp {r : Option Nat} {n : Nat} {o : Oper} {a : Act} {e : Fr} {w : World} {K : Fr → St → Prop} {next : Act → World → Prop} {Q : Exit → Act → World → Prop}
    (hd : r = none ∨ ∀ c, o.op ≠ .defer c) (hdst : ∀ i, o.dst = some i → i < n) (ha : Is a n e) (hw : Rel B w σ) (h : opS P B o K e σ)
    (hn : ∀ a' e' σ' w', Is a' n e' → Rel B w' σ' → K e' σ' → next a' w') : o.wpIn (FR r) 0 P a w next Q := by
  refine ⟨fun _ _ => trivial, ?_⟩
  have hsem : o.semAt (FR r).round a.eval = execOp (ev e) o := by
    rw [ha.eval]
    rcases hd with rfl | hd
    · rfl
    · exact Oper.semAt_eq _ _ _ hd
  rw [hsem]
  unfold opS at h
  split at h
  · obtain ⟨v, hq, hK⟩ := h
    rw [run_qv hw hq o rfl]
    exact hn _ _ _ _ (ha.put _ _ hdst) hw hK
  · split at h
    · rename_i c hop
      split at h <;> first | contradiction | skip
      rename_i f hc
      obtain ⟨d, hd', hK⟩ := h
      unfold dfr at hd'
      split at hd' <;> first | contradiction | skip
      rename_i fn first cap hf
      cases hd'
      have : (execOp (ev e) o).run P w = .ok (.defer { target := .fn fn cap, args := first ++ c.args.map (ev e) }) w := by
        simp [execOp, hop, resolve, hc, Deferred.ofValue, hf]
      rw [this]
      have ha' : Is { a with defers := { target := .fn fn cap, args := first ++ c.args.map (ev e) } :: a.defers } n { e with d := { target := .fn fn cap, args := first ++ c.args.map (ev e) } :: e.d } :=
        ⟨ha.size, ha.v, by simp [ha.d]⟩
      exact hn _ _ _ _ (ha'.put _ _ hdst) hw hK
    · have := effS_sound P B h w hw
      rw [execOp_same] at this
      exact this.upon fun v σ' w' hr hK => hn _ _ _ _ (ha.put _ _ hdst) hr hK

/-- A region in the text's order. -/
theorem runL_wp {r : Option Nat} {n : Nat} {ops : Array Oper} {Q : Exit → Act → World → Prop} {K : Fr → St → Prop} :
    ∀ (l : List Oper) (k : Nat) (e : Fr) (σ : St) (a : Act) (w : World), (∀ j, l[j]? = ops[k + j]?) → (r = none ∨ ∀ o ∈ l, ∀ c, o.op ≠ .defer c) → (∀ o ∈ l, ∀ i, o.dst = some i → i < n) →
      Is a n e → Rel B w σ → runL P B ops l K e σ → (∀ a' e' σ' w', Is a' n e' → Rel B w' σ' → K e' σ' → Q .normal a' w') →
      wpOpsIn (FR r) 0 P ops Q ((List.range l.length).map (k + ·)) a w
  | [], k, e, σ, a, w, _, _, _, ha, hw, h, hn => hn _ _ _ _ ha hw h
  | o :: l, k, e, σ, a, w, hl, hd, hdst, ha, hw, h, hn => by
    have h0 : ops[k]? = some o := by simpa using (hl 0).symm
    have hmap : (List.range (o :: l).length).map (k + ·) = k :: (List.range l.length).map (k + 1 + ·) := by
      simp only [List.length_cons, List.range_succ_eq_map, List.map_cons, List.map_map, Nat.add_zero, List.cons.injEq, true_and]
      refine List.map_congr_left fun x _ => ?_
      simp only [Function.comp]; omega
    rw [hmap]
    simp only [wpOpsIn, h0, wanted_gd ha]
    have hl' : ∀ j, l[j]? = ops[k + 1 + j]? := fun j => by have := hl (j + 1); simpa [Nat.add_assoc, Nat.add_comm 1 j] using this
    obtain ⟨h1, h2⟩ := h
    have hnext : ∀ a' e' σ' w', Is a' n e' → Rel B w' σ' → runL P B ops l K e' σ' → wpOpsIn (FR r) 0 P ops Q ((List.range l.length).map (k + 1 + ·)) a' w' :=
      fun a' e' σ' w' ha' hw' h' => runL_wp l (k + 1) e' σ' a' w' hl' (hd.imp id fun h o ho => h o (by simp [ho])) (fun o ho => hdst o (by simp [ho])) ha' hw' h' hn
    cases hg : gd ops o e with
    | true =>
      simp only [if_true]
      exact opS_wp (hd.imp id fun h => h o (by simp)) (hdst o (by simp)) ha hw (h1 hg) hnext
    | false =>
      simp only [Bool.false_eq_true, if_false]
      exact ⟨fun _ _ => trivial, hnext _ _ _ _ (ha.put _ _ (hdst o (by simp))) hw (h2 hg)⟩
end
end Go.Proofs.YtdbgeahmhfocaaaGreat
