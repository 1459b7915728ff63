/- A function's body by the view of memory: code, loops, rounds of ranges over functions, returns. -/
import Derived.Test.YtdbgeahmhfocaaaGreatEngF
import Derived.Scope
namespace Go.Proofs.YtdbgeahmhfocaaaGreat
set_option linter.unusedSimpArgs false
set_option linter.unusedVariables false
open Go Go.RowKit

def thenQ (next : Fr → St → Prop) (Q : Exit → Fr → St → Prop) : Exit → Fr → St → Prop
  | .normal, e, σ => next e σ
  | x, e, σ => Q x e σ

def blockQ (id : Nat) (Q : Exit → Fr → St → Prop) : Exit → Fr → St → Prop
  | .exit j, e, σ => if j = id then Q .normal e σ else Q (.exit j) e σ
  | x, e, σ => Q x e σ

def noGotoQ (Q : Exit → Fr → St → Prop) : Exit → Fr → St → Prop
  | .goto _, _, _ => False
  | x, e, σ => Q x e σ

theorem thenQ_normal (next : Fr → St → Prop) (Q : Exit → Fr → St → Prop) (e : Fr) (σ : St) : thenQ next Q .normal e σ = next e σ := rfl
theorem thenQ_ret (next : Fr → St → Prop) (Q : Exit → Fr → St → Prop) (e : Fr) (σ : St) : thenQ next Q .ret e σ = Q .ret e σ := rfl
theorem thenQ_exit (next : Fr → St → Prop) (Q : Exit → Fr → St → Prop) (j : Nat) (e : Fr) (σ : St) : thenQ next Q (.exit j) e σ = Q (.exit j) e σ := rfl
theorem blockQ_normal (id : Nat) (Q : Exit → Fr → St → Prop) (e : Fr) (σ : St) : blockQ id Q .normal e σ = Q .normal e σ := rfl
theorem blockQ_ret (id : Nat) (Q : Exit → Fr → St → Prop) (e : Fr) (σ : St) : blockQ id Q .ret e σ = Q .ret e σ := rfl
theorem blockQ_exit (id j : Nat) (Q : Exit → Fr → St → Prop) (e : Fr) (σ : St) : blockQ id Q (.exit j) e σ = if j = id then Q .normal e σ else Q (.exit j) e σ := rfl
theorem noGotoQ_normal (Q : Exit → Fr → St → Prop) (e : Fr) (σ : St) : noGotoQ Q .normal e σ = Q .normal e σ := rfl
theorem noGotoQ_ret (Q : Exit → Fr → St → Prop) (e : Fr) (σ : St) : noGotoQ Q .ret e σ = Q .ret e σ := rfl
theorem noGotoQ_exit (Q : Exit → Fr → St → Prop) (j : Nat) (e : Fr) (σ : St) : noGotoQ Q (.exit j) e σ = Q (.exit j) e σ := rfl

/-- What is looked at once and for all in a body's text: every slot is there; every region that draws is of the kind that one order serves; no 'defer' in a round. -/
def codeOk (rd : Bool) (n : Nat) : Code → Bool
  | .region _ ops draw => (ops.toList.all fun o => (match o.dst with | some t => decide (t < n) | none => true) && (!rd || (match o.op with | .defer _ => false | _ => true))) && (!draw || dok ops)
  | .seq x y => codeOk rd n x && codeOk rd n y
  | .cond _ x y => codeOk rd n x && codeOk rd n y
  | .block _ c => codeOk rd n c
  | .loop c => codeOk rd n c
  | .rangeFunc _ _ x y => codeOk true n x && codeOk true n y
  | .scope c => codeOk rd n c
  | _ => true

section
variable (P : Program) (B : World)

/-- The machine's own statement on a piece of code in a frame of 'n' slots. -/
def CodeR (r : Option Nat) (n : Nat) (c : Code) (Q : Exit → Fr → St → Prop) (e : Fr) (σ : St) : Prop :=
  ∀ a w, Is a n e → Rel B w σ → c.wpIn (FR r) 0 P (fun x a' w' => ∃ e' σ', Is a' n e' ∧ Rel B w' σ' ∧ Q x e' σ') a w

def LoopS (r : Option Nat) (n : Nat) (c : Code) (Q : Exit → Fr → St → Prop) (e : Fr) (σ : St) : Prop :=
  P.follows .mixedOrders = true → codeOk r.isSome n c = true → CodeR P B r n (.loop c) Q e σ

/-- The record of a range over a function, between two rounds. -/
def recR (fn : FuncId) (tm : Array Value) (ps : Array Tmp) (x y : Code) (db : Nat) : Loop := { state := .ready, pending := none, fn, tmps := tm, params := ps, assign := x, body := y, defers := db }

/-- The jump that a round has left is taken up where the loop stood. -/
def pendQ (Q : Exit → Fr → St → Prop) (p : Option Code) (e : Fr) (σ : St) : Prop :=
  match p with
  | none => Q .normal e σ
  | some .ret => Q .ret e σ
  | some (.exit id) => Q (.exit id) e σ
  | _ => False

/-- A call of a function value that is no 'yield'. -/
def FnF (g : Value) (args : Array Value) (σ : St) (K : Value → St → Prop) : Prop :=
  match g with
  | .func (.func f) first cap => Fn P B f (first ++ args ++ cap) σ K
  | _ => False

def RangeS (r : Option Nat) (n : Nat) (g : Operand) (ps : Array Tmp) (x y : Code) (Q : Exit → Fr → St → Prop) (e : Fr) (σ : St) : Prop :=
  match r with
  | none => ∀ (fn : FuncId) (tm : Array Value), tm.size = n → (∀ t, tm.getD t undef = e.v t) →
      FnF P B (ev e g) #[.func (.yield (σ.n + 1)) #[] #[]] ((σ.new (.deferred (some []))).new (.loop (recR fn tm ps x y σ.n))) fun _ σ' =>
        ∃ rec, σ'.m (σ.n + 1) = some (.raw (.loop rec)) ∧ rec.state ≠ .busy ∧
          pendQ Q rec.pending { e with d := { target := .collected σ.n, args := #[] } :: e.d } (σ'.set (σ.n + 1) (.raw (.loop { rec with state := .exhausted })))
  | some l0 => ∃ rec0, σ.m l0 = some (.raw (.loop rec0)) ∧ ∀ (fn : FuncId) (tm : Array Value), tm.size = n → (∀ t, tm.getD t undef = e.v t) →
      FnF P B (ev e g) #[.func (.yield σ.n) #[] #[]] (σ.new (.loop (recR fn tm ps x y rec0.defers))) fun _ σ' =>
        ∃ rec, σ'.m σ.n = some (.raw (.loop rec)) ∧ rec.state ≠ .busy ∧ pendQ Q rec.pending e (σ'.set σ.n (.raw (.loop { rec with state := .exhausted })))

def wpS (r : Option Nat) (n : Nat) : Code → (Exit → Fr → St → Prop) → Fr → St → Prop
  | .skip, Q, e, σ => Q .normal e σ
  | .label _, Q, e, σ => Q .normal e σ
  | .region _ ops false, Q, e, σ => runL P B ops ops.toList (Q .normal) e σ
  | .region _ ops true, Q, e, σ => drawS P B ops (Q .normal) e σ
  | .seq x y, Q, e, σ => wpS r n x (thenQ (wpS r n y Q) Q) e σ
  | .cond c x y, Q, e, σ => brV (ev e c) (wpS r n x Q) (wpS r n y Q) e σ
  | .block id c, Q, e, σ => wpS r n c (blockQ id Q) e σ
  | .exit id, Q, e, σ => Q (.exit id) e σ
  | .goto l, Q, e, σ => Q (.goto l) e σ
  | .ret, Q, e, σ => Q .ret e σ
  | .loop c, Q, e, σ => LoopS P B r n c Q e σ
  | .rangeFunc g ps x y, Q, e, σ => RangeS P B r n g ps x y Q e σ
  | .scope c, Q, e, σ => match r with | none => wpS r n c (noGotoQ Q) e σ | some _ => False
  | .refuse _, _, _, _ => False

/-- A deferred call, made while its function returns. -/
def DFn (f : FuncId) (args : Array Value) (σ : St) (K : St → Prop) : Prop :=
  (∃ fn, P.funcs[f]? = some fn ∧ (fn.name == "runtime.NumGoroutine") = false ∧ fn.body.isSome = true) ∧
    ∀ w, Rel B w σ → CallsDIn Fence.wide 0 P f args .returning w fun e u' w' => (∃ v, e = .returned v) ∧ u' = .returning ∧ ∃ σ', Rel B w' σ' ∧ K σ'

/-- What is asked of what a function has deferred. -/
def Leave : List Deferred → St → (St → Prop) → Prop
  | [], σ, K => K σ
  | d :: ds, σ, K =>
    match d.target with
    | .collected r => σ.m r = some (.raw (.deferred (some []))) ∧ Leave ds (σ.set r (.raw (.deferred none))) K
    | .fn (.func f) cap => DFn P B f (d.args ++ cap) σ fun σ' => Leave ds σ' K
    | _ => False

def resL (σ : St) (e : Fr) : List ResultVar → Option (List Value)
  | [] => some []
  | .tmp t :: rs => (resL σ e rs).map fun l => e.v t :: l
  | .cell a t :: rs => match e.v a with | .pointer (some ad) => (ldv P B σ t ad).bind fun v => (resL σ e rs).map fun l => v :: l | _ => none

def tup : List Value → Value
  | [v] => v
  | vs => .tuple vs.toArray

def retQ (rs : Array ResultVar) (K : Value → St → Prop) : Exit → Fr → St → Prop
  | .normal, e, σ => Leave P B e.d σ fun σ' => bindK (resL P B σ' e rs.toList) fun vs => K (tup vs) σ'
  | .ret, e, σ => Leave P B e.d σ fun σ' => bindK (resL P B σ' e rs.toList) fun vs => K (tup vs) σ'
  | _, _, _ => False

/-- A round's end. -/
def roundQ (l : Nat) (K : Value → St → Prop) : Exit → Fr → St → Prop
  | .normal, _, σ => ∃ rec, σ.m l = some (.raw (.loop rec)) ∧ K (.bool true) (σ.set l (.raw (.loop { rec with state := .ready, pending := none })))
  | .ret, _, σ => ∃ rec, σ.m l = some (.raw (.loop rec)) ∧ K (.bool false) (σ.set l (.raw (.loop { rec with state := .done, pending := some .ret })))
  | .exit id, _, σ => ∃ rec, σ.m l = some (.raw (.loop rec)) ∧ K (.bool false) (σ.set l (.raw (.loop { rec with state := .done, pending := some (.exit id) })))
  | _, _, _ => False
end

def fr0 (args : Array Value) : Fr := ⟨fun t => args.getD t undef, []⟩

section
variable {P : Program} {B : World}

theorem run_getLoop {w : World} {l : Nat} {r : Loop} (h : w.heap[l]? = some (.loop r)) : (Instr.getLoop l).run P w = .ok r w := by
  unfold Instr.getLoop
  simp only [Sem.run_bind, getObj, Sem.run, h, Result.andThen_ok]
  rfl

theorem run_setObj {w : World} {l : Nat} {r : Loop} (o : Obj) (h : w.heap[l]? = some (.loop r)) : (setObj l o).run P w = .ok () { w with heap := w.heap.setIfInBounds l o } := by
  simp only [setObj, Sem.run, h]

theorem FnF.inv {a : Act} {n : Nat} {e : Fr} (ha : Is a n e) {g : Operand} {l : Nat} {σ : St} {K : Value → St → Prop} {w : World} (hf : FnF P B (ev e g) #[.func (.yield l) #[] #[]] σ K) (hr : Rel B w σ) :
    ∃ d f args, (resolve a.eval (rangeCall g l) 0).run P w = .ok d w ∧ (invoke d.target d.args).run P w = .ok (.enter f args) w ∧ Calls P f args w (retP B K) := by
  obtain ⟨f, first, cap, hg, hf'⟩ : ∃ f first cap, ev e g = .func (.func f) first cap ∧ Fn P B f (first ++ #[.func (.yield l) #[] #[]] ++ cap) σ K := by
    revert hf
    cases ev e g with
    | func fn first cap => cases fn <;> intro hf <;> first | exact hf.elim | exact ⟨_, _, _, rfl, hf⟩
    | _ => exact fun hf => hf.elim
  have h1 : a.eval g = .func (.func f) first cap := by rw [ha.eval]; exact hg
  have h2 : (resolve a.eval (rangeCall g l) 0).run P w = .ok { target := .fn (.func f) cap, args := first ++ #[.func (.yield l) #[] #[]] } w := by
    simp only [resolve, rangeCall, List.map_toArray, List.map_cons, List.map_nil, h1, Deferred.ofValue, Sem.run_pure]
    rfl
  have h3 := run_callFunc_en (args := first ++ #[.func (.yield l) #[] #[]] ++ cap) (w := w) hf'.1
  exact ⟨_, f, _, h2, h3, hf'.2 w hr⟩

theorem range_post {r : Option Nat} {n : Nat} {l : Nat} {Q : Exit → Fr → St → Prop} {e : Fr} {a : Act} (ha : Is a n e) {en : Ending} {w : World}
    (h : retP B (fun _ σ' => ∃ rec, σ'.m l = some (.raw (.loop rec)) ∧ rec.state ≠ .busy ∧ pendQ Q rec.pending e (σ'.set l (.raw (.loop { rec with state := .exhausted })))) en w) :
    rangePost (FR r) 0 P l (fun x a' w' => ∃ e' σ', Is a' n e' ∧ Rel B w' σ' ∧ Q x e' σ') a en w := by
  obtain ⟨v, σ', rfl, hr, rec, hm, hb, hp⟩ := h
  have hl := hr.raw hm
  have hend : (Instr.endLoop l).run P w = .ok rec.pending { w with heap := w.heap.setIfInBounds l (.loop { rec with state := .exhausted }) } := by
    have hb' : (rec.state == .busy) = false := by simpa using hb
    simp only [Instr.endLoop, Sem.run_bind, run_getLoop hl, Result.andThen_ok, hb', Bool.false_eq_true, if_false, run_setObj _ hl, Sem.run_pure]
  have hr' := hr.upd hm (.loop { rec with state := .exhausted })
  generalize ({ w with heap := w.heap.setIfInBounds l (.loop { rec with state := .exhausted }) } : World) = W at hend hr'
  generalize σ'.set l (.raw (.loop { rec with state := .exhausted })) = σ'' at hr' hp
  refine ⟨rec.pending, _, hend, ?_⟩
  unfold pendQ at hp
  split at hp <;> first | contradiction | skip
  · rename_i he; rw [he]; exact ⟨e, _, ha, hr', hp⟩
  · rename_i he; rw [he]; exact wpIn_ret ⟨e, _, ha, hr', hp⟩
  · rename_i id he; rw [he]; exact wpIn_exit ⟨e, _, ha, hr', hp⟩

theorem range_wp {r : Option Nat} {n : Nat} {g : Operand} {ps : Array Tmp} {x y : Code} {Q : Exit → Fr → St → Prop} {e : Fr} {σ : St} (h : RangeS P B r n g ps x y Q e σ) : CodeR P B r n (.rangeFunc g ps x y) Q e σ := by
  intro a w ha hw
  refine wpIn_rangeFunc fun fn _ => ?_
  unfold RangeS at h
  cases r with
  | none =>
    have h1 := h fn a.tmps ha.size ha.v
    have hr1 := (hw.new (.deferred (some []))).new (.loop (recR fn a.tmps ps x y σ.n))
    obtain ⟨d, f, args, hres, hinv, hcall⟩ := FnF.inv ha h1 hr1
    refine ⟨σ.n + 1, [{ target := .collected σ.n, args := #[] }], _, d, _, f, args, _, ?_, hres, fun _ _ => trivial, hinv, fun h => by simp [FR, Fence.wide] at h, ?_⟩
    · simp [Instr.enterLoop, FR, Fence.wide, hw.size, recR]
      rfl
    · have ha' : Is { a with defers := [{ target := .collected σ.n, args := #[] }] ++ a.defers } n { e with d := { target := .collected σ.n, args := #[] } :: e.d } := ⟨ha.size, ha.v, by simp [ha.d]⟩
      exact callsIn_FR (hcall.mono fun en w' he => range_post (r := none) ha' he)
  | some l0 =>
    obtain ⟨rec0, hm0, h⟩ := h
    have h1 := h fn a.tmps ha.size ha.v
    have hr1 := hw.new (.loop (recR fn a.tmps ps x y rec0.defers))
    obtain ⟨d, f, args, hres, hinv, hcall⟩ := FnF.inv ha h1 hr1
    refine ⟨σ.n, [], _, d, _, f, args, _, ?_, hres, fun _ _ => trivial, hinv, fun h => by simp [FR, Fence.wide] at h, ?_⟩
    · simp [Instr.enterLoop, FR, Fence.wide, hw.size, recR, run_getLoop (hw.raw hm0)]
    · exact callsIn_FR (hcall.mono fun en w' he => range_post (r := some l0) (a := { a with defers := [] ++ a.defers }) ⟨ha.size, ha.v, by simp [ha.d]⟩ he)

theorem CodeR.mono {r : Option Nat} {n : Nat} {c : Code} {Q Q' : Exit → Fr → St → Prop} {e : Fr} {σ : St} (h : CodeR P B r n c Q e σ) (hq : ∀ x e σ, Q x e σ → Q' x e σ) : CodeR P B r n c Q' e σ :=
  fun a w ha hw => wpIn_mono (h a w ha hw) fun _ _ _ ⟨e', σ', h1, h2, h3⟩ => ⟨e', σ', h1, h2, hq _ _ _ h3⟩

theorem codeOk_region {rd : Bool} {n id : Nat} {ops : Array Oper} {draw : Bool} (h : codeOk rd n (.region id ops draw) = true) :
    (∀ o ∈ ops.toList, ∀ i, o.dst = some i → i < n) ∧ (rd = false ∨ ∀ o ∈ ops.toList, ∀ c, o.op ≠ .defer c) ∧ (draw = true → dok ops = true) := by
  simp only [codeOk, Bool.and_eq_true, List.all_eq_true, Bool.or_eq_true, Bool.not_eq_true'] at h
  refine ⟨fun o ho i hi => ?_, ?_, fun hd => ?_⟩
  · have := (h.1 o ho).1; rw [hi] at this; simpa using this
  · cases rd with
    | false => exact .inl rfl
    | true =>
      refine .inr fun o ho c hc => ?_
      have := (h.1 o ho).2
      simp [hc] at this
  · rcases h.2 with h1 | h1
    · rw [hd] at h1; cases h1
    · exact h1

/-- **THE WALK OF A PIECE OF CODE IS THE MACHINE's OWN.** -/
theorem wpS_sound (hmix : P.follows .mixedOrders = true) {r : Option Nat} {n : Nat} : ∀ (c : Code) (Q : Exit → Fr → St → Prop) (e : Fr) (σ : St), codeOk r.isSome n c = true → wpS P B r n c Q e σ → CodeR P B r n c Q e σ := by
  intro c
  induction c with
  | skip => exact fun Q e σ _ h a w ha hw => wpIn_skip ⟨e, σ, ha, hw, h⟩
  | label l => exact fun Q e σ _ h a w ha hw => wpIn_label ⟨e, σ, ha, hw, h⟩
  | exit id => exact fun Q e σ _ h a w ha hw => wpIn_exit ⟨e, σ, ha, hw, h⟩
  | goto l => exact fun Q e σ _ h a w ha hw => wpIn_goto ⟨e, σ, ha, hw, h⟩
  | ret => exact fun Q e σ _ h a w ha hw => wpIn_ret ⟨e, σ, ha, hw, h⟩
  | refuse why => exact fun Q e σ _ h => h.elim
  | region id ops draw =>
    intro Q e σ hok h a w ha hw
    obtain ⟨hdst, hdef, hdok⟩ := codeOk_region hok
    cases draw with
    | false =>
      refine wpIn_region ?_
      have hdef' : r = none ∨ ∀ o ∈ ops.toList, ∀ c, o.op ≠ .defer c := hdef.imp (fun h => by cases r <;> simp_all) fun h => h
      have := runL_wp (r := r) (ops := ops) (Q := fun x a' w' => ∃ e' σ', Is a' n e' ∧ Rel B w' σ' ∧ Q x e' σ') ops.toList 0 e σ a w (by simp) hdef' hdst ha hw h fun a' e' σ' w' ha' hw' hq => ⟨e', σ', ha', hw', hq⟩
      simpa using this
    | true =>
      refine draw_wp hmix (hdok rfl) (fun i o ho t ht => hdst o ?_ t ht) ha hw h fun a' e' σ' w' ha' hw' hq => ⟨e', σ', ha', hw', hq⟩
      have := Array.mem_of_getElem? ho
      simpa using this
  | seq x y ihx ihy =>
    intro Q e σ hok h a w ha hw
    simp only [codeOk, Bool.and_eq_true] at hok
    refine wpIn_seq (wpIn_mono (ihx _ e σ hok.1 h a w ha hw) ?_)
    rintro ex a' w' ⟨e', σ', ha', hw', hq⟩
    cases ex with
    | normal => exact ihy Q e' σ' hok.2 hq a' w' ha' hw'
    | _ => exact ⟨e', σ', ha', hw', hq⟩
  | cond c x y ihx ihy =>
    intro Q e σ hok h a w ha hw
    simp only [codeOk, Bool.and_eq_true] at hok
    simp only [wpS, brV] at h
    split at h <;> first | contradiction | skip
    rename_i b hb
    have hb' : a.eval c = .bool b := by rw [ha.eval]; exact hb
    cases b with
    | true => exact wpIn_cond_true hb' (ihx Q e σ hok.1 (h.1 rfl) a w ha hw)
    | false => exact wpIn_cond_false hb' (ihy Q e σ hok.2 (h.2 rfl) a w ha hw)
  | block id c ih =>
    intro Q e σ hok h a w ha hw
    refine wpIn_block (wpIn_mono (ih _ e σ hok h a w ha hw) ?_)
    rintro ex a' w' ⟨e', σ', ha', hw', hq⟩
    cases ex with
    | exit j =>
      simp only [blockQ] at hq
      simp only [Exit.inBlock]
      split <;> rename_i hj
      · rw [if_pos hj] at hq; exact ⟨e', σ', ha', hw', hq⟩
      · rw [if_neg hj] at hq; exact ⟨e', σ', ha', hw', hq⟩
    | _ => exact ⟨e', σ', ha', hw', hq⟩
  | loop c ih => exact fun Q e σ hok h => h hmix hok
  | rangeFunc g ps x y ihx ihy => exact fun Q e σ hok h => range_wp h
  | scope c ih =>
    intro Q e σ hok h a w ha hw
    cases r with
    | some l => exact h.elim
    | none =>
      have h1 := ih _ e σ hok h a w ha hw
      have h2 : c.wp P (Exit.noGoto fun x a' w' => ∃ e' σ', Is a' n e' ∧ Rel B w' σ' ∧ Q x e' σ') a w := by
        refine wpIn_wide.1 (wpIn_mono (F := Fence.wide) (n := 0) h1 ?_)
        rintro ex a' w' ⟨e', σ', ha', hw', hq⟩
        cases ex with
        | goto l => exact hq.elim
        | _ => exact ⟨e', σ', ha', hw', hq⟩
      exact wpIn_wide.2 (wp_scope_straight h2)
end
end Go.Proofs.YtdbgeahmhfocaaaGreat
