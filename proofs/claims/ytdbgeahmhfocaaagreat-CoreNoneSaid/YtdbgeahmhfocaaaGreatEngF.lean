/- A region that draws its order of evaluation: one walk in the text's order serves every order. -/
import Derived.Test.YtdbgeahmhfocaaaGreatEngE
namespace Go.Proofs.YtdbgeahmhfocaaaGreat
set_option linter.unusedSimpArgs false
set_option linter.unusedVariables false
open Go Go.RowKit

/-- May the region's text order stand for every order? Each operation waits for whoever writes what it looks at; no slot is written twice. -/
def dok (ops : Array Oper) : Bool :=
  (List.range ops.size).all fun i =>
    match ops[i]? with
    | none => true
    | some o =>
      (match o.op with | .select _ _ => false | .defer _ => false | _ => true) &&
      (o.after.all fun e => !Region.binds .any e || decide (e.on < i)) &&
      ((List.range ops.size).all fun j =>
        match (ops[j]?).bind (·.dst) with
        | none => true
        | some t => (!(o.looksAt ops).contains t || decide (j = i) || (decide (j < i) && Region.waitsFor .any ops i j) || (decide (i < j) && Region.waitsFor .any ops j i)) && (decide (j = i) || o.dst != some t))

def tailB (ops : Array Oper) (i : Nat) : Bool := Region.sinkB .any ops i && Region.chainB .any ops i

/-- Whatever stands ahead of the i-th operation is done ahead of it, whatever stands behind it is done behind it. -/
def cutB (ops : Array Oper) (i : Nat) : Bool := Region.sinkB .any ops i && (List.range ops.size).all fun t => decide (t ≤ i) || (List.range t).any fun j => decide (i ≤ j) && Region.waitsFor .any ops t j

def hasCall (ops : List Oper) : Bool := ops.any fun o => match o.op with | .call ⟨.value _, _, _⟩ => true | _ => false

def upto (c : Bool) (σ : St) (X : St → Prop) : Prop :=
  match c with
  | true => ∀ m, σ.n ≤ m → X (σ.up m)
  | false => X σ

section
variable (P : Program) (B : World)

/-- A call that leaves all as it was, but for new memory that nobody holds. -/
def QC (o : Oper) (e : Fr) (σ : St) (v : Value) : Prop :=
  ∃ f as ts, o.op = .call ⟨.value f, as, ts⟩ ∧ ∀ m, σ.n ≤ m → FnV P B (ev e f) (as.map (ev e)) (σ.up m) fun v' σ' => v' = v ∧ ∃ m', m ≤ m' ∧ σ' = σ.up m'

def pureB : Op → Bool
  | .move _ | .assign _ | .pick .. | .nilCheck _ | .binOp .. | .unOp .. | .convert .. | .fieldAddr .. | .field .. | .indexAddr .. | .index .. | .extract .. | .slice .. | .makeFunc .. | .build .. | .makeInterface .. => true
  | _ => false

def atS (i : Nat) (ops : Array Oper) (l : List Oper) (X : Fr → St → Prop) (e : Fr) (σ : St) : Prop :=
  match l, i with
  | [], _ => False
  | o :: _, 0 => brS (gd ops o e) (opS P B o X) (skipK o.dst X) e σ
  | _ :: l, i + 1 => atS i ops l X e σ

/-- Whatever order the region draws: said by the machine itself. Rules that come later may prove it. -/
def AnyS (ops : Array Oper) (K : Fr → St → Prop) (e : Fr) (σ : St) : Prop :=
  ∀ (r : Option Nat) (n id : Nat) (Q : Exit → Act → World → Prop) (a : Act) (w : World), P.follows .mixedOrders = true → dok ops = true → (∀ (i : Nat) (o : Oper), ops[i]? = some o → ∀ t, o.dst = some t → t < n) →
    Is a n e → Rel B w σ → (∀ a' e' σ' w', Is a' n e' → Rel B w' σ' → K e' σ' → Q .normal a' w') → (Code.region id ops true).wpIn (FR r) 0 P Q a w

/-- A region's make: does it hold a call; is nothing of it past yet that changed memory; the frame that it begins in. -/
structure DC where
  c : Bool
  rn : Bool
  e : Fr

/-- An operation that is not quiet: what follows is in one order; or it parts the region in two; or it is a call that leaves all as it was; or the orders are gone through from the region's beginning on. -/
def effD (ops : Array Oper) (i : Nat) (o : Oper) (rest : List Oper) (K : Fr → St → Prop) (Z : DC → Fr → St → Prop) (c : DC) (e : Fr) (σ : St) : Prop :=
  (tailB ops i = true ∧ upto c.c σ (runL P B ops (o :: rest) K e)) ∨ (cutB ops i = true ∧ upto c.c σ (opS P B { o with guard := none } (Z { c with rn := false }) e)) ∨
    (c.c = true ∧ ∃ v, QC P B o e σ v ∧ Z c (e.put o.dst v) σ) ∨ (c.rn = true ∧ AnyS P B ops K c.e σ)
def stepX (x : Option Value) (d : Option Tmp) (Z : DC → Fr → St → Prop) (c : DC) (e : Fr) (σ : St) : Prop := ∃ v, x = some v ∧ Z c (e.put d v) σ
def skipX (d : Option Tmp) (Z : DC → Fr → St → Prop) (c : DC) (e : Fr) (σ : St) : Prop := Z c (e.put d undef) σ
def brX (b : Bool) (x y : DC → Fr → St → Prop) (c : DC) (e : Fr) (σ : St) : Prop := (b = true → x c e σ) ∧ (b = false → y c e σ)
def opX (ops : Array Oper) (i : Nat) (o : Oper) (rest : List Oper) (K : Fr → St → Prop) (Z : DC → Fr → St → Prop) (c : DC) (e : Fr) (σ : St) : Prop :=
  match isQ o.op with
  | true => stepX (qv P B o.op (ev e) σ) o.dst Z c e σ
  | false => effD P B ops i o rest K Z c e σ

def runD (ops : Array Oper) : Nat → List Oper → (Fr → St → Prop) → DC → Fr → St → Prop
  | _, [], K, c, e, σ => upto c.c σ (K e)
  | i, o :: rest, K, c, e, σ => brX (gd ops o e) (opX P B ops i o rest K (runD ops (i + 1) rest K)) (skipX o.dst (runD ops (i + 1) rest K)) c e σ

def drawS (ops : Array Oper) (K : Fr → St → Prop) (e : Fr) (σ : St) : Prop := runD P B ops 0 ops.toList K ⟨hasCall ops.toList, true, e⟩ e σ
end

def CL (c : Bool) (σ : St) (m : Nat) : Prop := match c with | true => σ.n ≤ m | false => m = σ.n

theorem upto_at {c : Bool} {σ : St} {X : St → Prop} (h : upto c σ X) {m : Nat} (hm : CL c σ m) : X (σ.up m) := by
  cases c with
  | true => exact h m hm
  | false => simp only [CL] at hm; subst hm; exact h

section
variable {P : Program} {B : World}

/-- An operation yields 'v', whatever order is drawn. -/
def Yield (P : Program) (B : World) (c : Bool) (σ : St) (o : Oper) (ρ : Operand → Value) (v : Value) : Prop :=
  ∀ m w, CL c σ m → Rel B w (σ.up m) → NextR P B ((execOp ρ o).run P w) fun v' σ' => v' = v ∧ ∃ m', CL c σ m' ∧ σ' = σ.up m'

theorem rds_up (σ : St) (m : Nat) (a : Addr) : ∀ (n i : Nat), rds B (σ.up m) a i n = rds B σ a i n
  | 0, _ => rfl
  | n + 1, i => by simp only [rds, rd_up, rds_up σ m a n (i + 1)]

theorem qv_up (p : Op) (ρ : Operand → Value) (σ : St) (m : Nat) : qv P B p ρ (σ.up m) = qv P B p ρ σ := by
  cases p <;> first | rfl | skip
  simp only [qv, ldv, rds_up, rd_up]

theorem Yield.of_q {c : Bool} {σ : St} {o : Oper} {ρ : Operand → Value} {v : Value} (h : qv P B o.op ρ σ = some v) : Yield P B c σ o ρ v := by
  intro m w hm hw
  rw [run_qv hw (by rw [qv_up]; exact h) o rfl]
  exact ⟨_, hw, rfl, m, hm, rfl⟩

theorem Yield.of_call {σ : St} {o : Oper} {e : Fr} {v : Value} (h : QC P B o e σ v) : Yield P B true σ o (ev e) v := by
  intro m w hm hw
  obtain ⟨f, as, ts, ho, hc⟩ := h
  have h1 := opK_call (P := P) (B := B) (ts := ts) (ty := o.type) (hc m hm) w hw
  have : execOp (ev e) { dst := none, op := .call ⟨.value f, as, ts⟩, type := o.type, pos := "", after := #[], guard := none } = execOp (ev e) o := by
    rw [← ho]; exact execOp_same _ o
  rw [this] at h1
  revert h1
  generalize (execOp (ev e) o).run P w = r
  intro h1
  have mono : ∀ {K K' : Value → St → Prop}, (∀ v σ', K v σ' → K' v σ') → NextR P B r K → NextR P B r K' := by
    intro K K' hk hh
    unfold NextR at hh ⊢
    split at hh <;> first | contradiction | skip
    · obtain ⟨s, a, b⟩ := hh; exact ⟨s, a, hk _ _ b⟩
    · obtain ⟨s, a, b⟩ := hh; exact ⟨s, a, hk _ _ b⟩
    · exact hh.mono fun _ _ ⟨v, s, a, b, d⟩ => ⟨v, s, a, b, hk _ _ d⟩
    · exact RoundIn.mono hh fun _ _ ⟨v, s, a, b, d⟩ => ⟨v, s, a, b, hk _ _ d⟩
  exact mono (fun v' σ' ⟨e1, m', hm', e2⟩ => ⟨e1, m', Nat.le_trans hm hm', e2⟩) h1

theorem countP_upd {p p' : Nat → Bool} {i : Nat} (hp : p i = true) (hp' : p' i = false) (he : ∀ j, j ≠ i → p' j = p j) :
    ∀ k, (k ≤ i → (List.range k).countP p' = (List.range k).countP p) ∧ (i < k → (List.range k).countP p' + 1 = (List.range k).countP p)
  | 0 => ⟨fun _ => rfl, fun h => by omega⟩
  | k + 1 => by
    have ih := countP_upd hp hp' he k
    rw [List.range_succ, List.countP_append, List.countP_append, List.countP_singleton, List.countP_singleton]
    refine ⟨fun h => ?_, fun h => ?_⟩
    · rw [ih.1 (by omega), he k (by omega)]
    · by_cases hk : k = i
      · subst hk; rw [ih.1 (Nat.le_refl _), hp, hp']; simp
      · rw [he k hk]; have := ih.2 (by omega); omega

/-! ### What 'dok' says -/
structure Dok (ops : Array Oper) : Prop where
  plain : ∀ (i : Nat) (o : Oper), ops[i]? = some o → (∀ cs b, o.op ≠ .select cs b) ∧ ∀ c, o.op ≠ .defer c
  ahead : ∀ (i : Nat) (o : Oper), ops[i]? = some o → ∀ e ∈ o.after, Region.binds .any e = true → e.on < i
  waits : ∀ (i : Nat) (o : Oper) (j : Nat) (oj : Oper) (t : Tmp), ops[i]? = some o → ops[j]? = some oj → oj.dst = some t → t ∈ o.looksAt ops →
    j = i ∨ (j < i ∧ ∃ e ∈ o.after, Region.binds .any e = true ∧ e.on = j) ∨ (i < j ∧ ∃ e ∈ oj.after, Region.binds .any e = true ∧ e.on = i)
  once : ∀ (i : Nat) (o : Oper) (j : Nat) (oj : Oper) (t : Tmp), ops[i]? = some o → ops[j]? = some oj → oj.dst = some t → o.dst = some t → j = i

theorem dok_spec {ops : Array Oper} (h : dok ops = true) : Dok ops := by
  have hi : ∀ i o, ops[i]? = some o → i < ops.size := fun i o ho => (Array.getElem?_eq_some_iff.1 ho).1
  have key := fun i o (ho : ops[i]? = some o) => by
    have := List.all_eq_true.1 h i (List.mem_range.2 (hi i o ho))
    simp only [ho, Bool.and_eq_true] at this
    exact this
  refine ⟨fun i o ho => ?_, fun i o ho e he hb => ?_, fun i o j oj t ho hoj hd ht => ?_, fun i o j oj t ho hoj hd hd' => ?_⟩
  · have := (key i o ho).1.1
    constructor
    · intro cs b hop; simp [hop] at this
    · intro c hop; simp [hop] at this
  · have := Array.all_eq_true'.1 (key i o ho).1.2 e he
    simpa [hb] using this
  · have := List.all_eq_true.1 (key i o ho).2 j (List.mem_range.2 (hi j oj hoj))
    simp only [hoj, Option.bind_some, hd, Bool.and_eq_true, Bool.or_eq_true, Bool.not_eq_true', decide_eq_true_eq] at this
    rcases this.1 with ((h1 | h1) | h1) | h1
    · rw [List.contains_eq_mem] at h1; simp [ht] at h1
    · exact .inl h1
    · obtain ⟨o', ho', e, he, hb, hon⟩ := Region.waitsFor_spec h1.2
      have : o' = o := by simpa [ho] using ho'.symm
      subst this
      exact .inr (.inl ⟨h1.1, e, he, hb, hon⟩)
    · obtain ⟨o', ho', e, he, hb, hon⟩ := Region.waitsFor_spec h1.2
      have : o' = oj := by simpa [hoj] using ho'.symm
      subst this
      exact .inr (.inr ⟨h1.1, e, he, hb, hon⟩)
  · have := List.all_eq_true.1 (key i o ho).2 j (List.mem_range.2 (hi j oj hoj))
    simp only [hoj, Option.bind_some, hd, Bool.and_eq_true, Bool.or_eq_true, decide_eq_true_eq] at this
    rcases this.2 with h1 | h1
    · exact h1
    · simp [hd'] at h1

/-! ### The values, in the text's order -/
/-- The frame behind so many operations from the i-th on. -/
def envF (ops : Array Oper) (vals : Nat → Value) (e : Fr) (i : Nat) : Nat → Fr
  | 0 => e
  | d + 1 => (envF ops vals e i d).put ((ops[i + d]?).bind (·.dst)) (vals (i + d))

theorem envF_cons (ops : Array Oper) (vals : Nat → Value) (e : Fr) (i : Nat) (v : Value) : ∀ d,
    envF ops vals (e.put ((ops[i]?).bind (·.dst)) v) (i + 1) d = envF ops (fun j => if j = i then v else vals j) e i (d + 1)
  | 0 => by simp [envF]
  | d + 1 => by
    rw [envF, envF_cons ops vals e i v d, envF.eq_2 ops _ e i (d + 1)]
    have h1 : i + 1 + d = i + (d + 1) := by omega
    have h2 : i + (d + 1) ≠ i := by omega
    rw [h1, if_neg h2]

def Spec (P : Program) (B : World) (ops : Array Oper) (c : Bool) (σ : St) (o : Oper) (e : Fr) (v : Value) : Prop :=
  (gd ops o e = true ∧ Yield P B c σ o (ev e) v) ∨ (gd ops o e = false ∧ v = undef)

theorem vals_of_runD {ops : Array Oper} {c : DC} {σ : St} {K : Fr → St → Prop} : ∀ (l : List Oper) (i : Nat) (e : Fr), (∀ j, l[j]? = ops[i + j]?) → runD P B ops i l K c e σ →
    (∃ (d : Nat) (vals : Nat → Value), d ≤ l.length ∧ (∀ j o, j < d → ops[i + j]? = some o → Spec P B ops c.c σ o (envF ops vals e i j) (vals (i + j))) ∧
      ((d = l.length ∧ upto c.c σ (K (envF ops vals e i d))) ∨ (d < l.length ∧ tailB ops (i + d) = true ∧ upto c.c σ (runL P B ops (l.drop d) K (envF ops vals e i d))) ∨
        (∃ o2 rest, l.drop d = o2 :: rest ∧ cutB ops (i + d) = true ∧ gd ops o2 (envF ops vals e i d) = true ∧ upto c.c σ (opS P B { o2 with guard := none } (runD P B ops (i + d + 1) rest K { c with rn := false }) (envF ops vals e i d))))) ∨ (c.rn = true ∧ AnyS P B ops K c.e σ)
  | [], i, e, _, h => .inl ⟨0, fun _ => undef, Nat.le_refl _, fun j _ hj => by omega, .inl ⟨rfl, h⟩⟩
  | o :: l, i, e, hl, h => by
    have h0 : ops[i]? = some o := by simpa using (hl 0).symm
    have hl' : ∀ j, l[j]? = ops[i + 1 + j]? := fun j => by have := hl (j + 1); simpa [Nat.add_assoc, Nat.add_comm 1 j] using this
    have hdst : o.dst = (ops[i]?).bind (·.dst) := by rw [h0]; rfl
    have step : ∀ v, Spec P B ops c.c σ o e v → runD P B ops (i + 1) l K c (e.put o.dst v) σ → (∃ (d : Nat) (vals : Nat → Value), d ≤ (o :: l).length ∧
        (∀ j o', j < d → ops[i + j]? = some o' → Spec P B ops c.c σ o' (envF ops vals e i j) (vals (i + j))) ∧
        ((d = (o :: l).length ∧ upto c.c σ (K (envF ops vals e i d))) ∨ (d < (o :: l).length ∧ tailB ops (i + d) = true ∧ upto c.c σ (runL P B ops ((o :: l).drop d) K (envF ops vals e i d))) ∨
        (∃ o2 rest, (o :: l).drop d = o2 :: rest ∧ cutB ops (i + d) = true ∧ gd ops o2 (envF ops vals e i d) = true ∧ upto c.c σ (opS P B { o2 with guard := none } (runD P B ops (i + d + 1) rest K { c with rn := false }) (envF ops vals e i d))))) ∨ (c.rn = true ∧ AnyS P B ops K c.e σ) := by
      intro v hs hr
      rcases vals_of_runD l (i + 1) _ hl' hr with ⟨d, vals, hd, hsp, hend⟩ | hp
      · rw [hdst] at hend
        refine .inl ⟨d + 1, fun j => if j = i then v else vals j, by simp; omega, fun j o' hj ho' => ?_, ?_⟩
        · cases j with
          | zero =>
            have : o' = o := by simpa [h0] using ho'.symm
            subst this
            simpa [envF] using hs
          | succ j =>
            have h1 : i + (j + 1) = i + 1 + j := by omega
            have := hsp j o' (by omega) (by rw [← h1]; exact ho')
            rw [hdst, envF_cons] at this
            simpa [h1, show i + 1 + j ≠ i by omega] using this
        · rw [← envF_cons]
          have hi : i + (d + 1) = i + 1 + d := by omega
          rw [hi]
          rcases hend with ⟨e1, h1⟩ | ⟨e1, h1, h2⟩ | ⟨o', rest, e1, h1, h2, h3⟩
          · exact .inl ⟨by simp [e1], h1⟩
          · exact .inr (.inl ⟨by simp; omega, h1, by simpa using h2⟩)
          · exact .inr (.inr ⟨o', rest, by simpa using e1, h1, h2, h3⟩)
      · exact .inr hp
    simp only [runD] at h
    cases hg : gd ops o e with
    | false => exact step undef (.inr ⟨hg, rfl⟩) (h.2 hg)
    | true =>
      have h1 := h.1 hg
      unfold opX at h1
      cases hq : isQ o.op with
      | true =>
        rw [hq] at h1
        obtain ⟨v, hv, hr⟩ := h1
        exact step v (.inl ⟨hg, .of_q hv⟩) hr
      | false =>
        rw [hq] at h1
        rcases h1 with ⟨ht, hr⟩ | ⟨ht, hr⟩ | ⟨hc, v, hv, hr⟩ | hp
        · exact .inl ⟨0, fun _ => undef, by omega, fun j _ hj => by omega, .inr (.inl ⟨by simp, by simpa using ht, by simpa [envF] using hr⟩)⟩
        · exact .inl ⟨0, fun _ => undef, by omega, fun j _ hj => by omega, .inr (.inr ⟨o, l, rfl, by simpa using ht, by simpa [envF] using hg, by simpa [envF] using hr⟩)⟩
        · exact step v (.inl ⟨hg, by rw [hc]; exact .of_call hv⟩) hr
        · exact .inr hp

/-! ### Any order -/
/-- The frame when just the operations of 'S' (from 's' on, below 'k') have been carried out. -/
structure IsEnv (ops : Array Oper) (vals : Nat → Value) (e : Fr) (s k : Nat) (S : Nat → Bool) (env : Fr) : Prop where
  on : ∀ (j : Nat) (o : Oper) (t : Tmp), s ≤ j → j < k → S j = true → ops[j]? = some o → o.dst = some t → env.v t = vals j
  off : ∀ t : Tmp, (∀ (j : Nat) (o : Oper), s ≤ j → j < k → S j = true → ops[j]? = some o → o.dst ≠ some t) → env.v t = e.v t
  d : env.d = e.d

theorem IsEnv.congr {ops : Array Oper} {vals : Nat → Value} {e : Fr} {s k : Nat} {S S' : Nat → Bool} {env : Fr} (h : IsEnv ops vals e s k S env) (hs : ∀ j, s ≤ j → j < k → S' j = S j) : IsEnv ops vals e s k S' env :=
  ⟨fun j o t hsj hj hS => h.on j o t hsj hj (by rw [← hs j hsj hj]; exact hS), fun t ht => h.off t fun j o hsj hj hS => ht j o hsj hj (by rw [hs j hsj hj]; exact hS), h.d⟩

theorem IsEnv.unique {ops : Array Oper} {vals : Nat → Value} {e : Fr} {s k : Nat} {S : Nat → Bool} {env env' : Fr} (h : IsEnv ops vals e s k S env) (h' : IsEnv ops vals e s k S env') : env = env' := by
  have hv : env.v = env'.v := by
    funext t
    by_cases hx : ∃ (j : Nat) (o : Oper), s ≤ j ∧ j < k ∧ S j = true ∧ ops[j]? = some o ∧ o.dst = some t
    · obtain ⟨j, o, h0, h1, h2, h3, h4⟩ := hx
      rw [h.on j o t h0 h1 h2 h3 h4, h'.on j o t h0 h1 h2 h3 h4]
    · have hx' : ∀ (j : Nat) (o : Oper), s ≤ j → j < k → S j = true → ops[j]? = some o → o.dst ≠ some t := fun j o h0 h1 h2 h3 h4 => hx ⟨j, o, h0, h1, h2, h3, h4⟩
      rw [h.off t hx', h'.off t hx']
  have hd : env.d = env'.d := h.d.trans h'.d.symm
  cases env; cases env'; simp_all

theorem IsEnv.step {ops : Array Oper} (D : Dok ops) {vals : Nat → Value} {e : Fr} {s k : Nat} {S : Nat → Bool} {env : Fr} {i : Nat} {o : Oper} (h : IsEnv ops vals e s k S env) (hsi : s ≤ i) (hi : i < k) (ho : ops[i]? = some o) :
    IsEnv ops vals e s k (fun j => if j = i then true else S j) (env.put o.dst (vals i)) := by
  refine ⟨fun j oj t hsj hj hS hoj hd => ?_, fun t ht => ?_, by rw [put_d]; exact h.d⟩
  · by_cases hji : j = i
    · subst hji
      have : oj = o := by simpa [ho] using hoj.symm
      subst this
      rw [hd, put_same]
    · simp only [hji, if_false] at hS
      have hne : o.dst ≠ some t := fun hx => hji (D.once i o j oj t ho hoj hd hx)
      have := h.on j oj t hsj hj hS hoj hd
      cases hod : o.dst with
      | none => rw [put_none]; exact this
      | some u =>
        rw [put_ne]; exact this
        rintro rfl; exact hne hod
  · have h1 : o.dst ≠ some t := ht i o hsi hi (by simp) ho
    have h2 := h.off t fun j oj hsj hj hS hoj => ht j oj hsj hj (by simp [hS]) hoj
    cases hod : o.dst with
    | none => rw [put_none]; exact h2
    | some u =>
      rw [put_ne]; exact h2
      rintro rfl; exact h1 hod

theorem envF_isEnv {ops : Array Oper} (D : Dok ops) (vals : Nat → Value) (e : Fr) (s k : Nat) (hk : k ≤ ops.size) : ∀ d, s + d ≤ k → IsEnv ops vals e s k (fun j => decide (j < s + d)) (envF ops vals e s d)
  | 0, _ => ⟨fun j o t hsj hj hS => by simp at hS; omega, fun t _ => rfl, rfl⟩
  | d + 1, hd => by
    have hlt : s + d < ops.size := by omega
    have ho : ops[s + d]? = some ops[s + d] := by simp [hlt]
    have h := (envF_isEnv D vals e s k hk d (by omega)).step D (i := s + d) (by omega) (by omega) ho
    simp only [envF, ho, Option.bind_some]
    refine h.congr fun j hsj hj => ?_
    by_cases hjd : j = s + d
    · subst hjd; simp
    · simp only [hjd, if_false]; congr 1; apply propext; omega

theorem looks_same {ops : Array Oper} (D : Dok ops) {vals : Nat → Value} {e : Fr} {s k : Nat} (hk : k ≤ ops.size) {S : Nat → Bool} {env : Fr} (h : IsEnv ops vals e s k S env) {i : Nat} {o : Oper} (hi : s + i < k) (ho : ops[s + i]? = some o)
    (hS : ∀ x ∈ o.after, Region.binds .any x = true → S x.on = true) (hi0 : S (s + i) = false) (hcl : ∀ (j : Nat) (oj : Oper), ops[j]? = some oj → S j = true → ∀ x ∈ oj.after, Region.binds .any x = true → S x.on = true) :
    ∀ t ∈ o.looksAt ops, env.v t = (envF ops vals e s i).v t := by
  intro t ht
  have hE := envF_isEnv D vals e s k hk i (by omega)
  by_cases hx : ∃ (j : Nat) (oj : Oper), s ≤ j ∧ j < k ∧ ops[j]? = some oj ∧ oj.dst = some t
  · obtain ⟨j, oj, hsj, hj, hoj, hd⟩ := hx
    have off : S j = false → s + i ≤ j → env.v t = (envF ops vals e s i).v t := fun h1 h2 => by
      have e1 := h.off t fun j' oj' _ _ hS' hoj' hd' => by
        have hjj : j = j' := D.once j' oj' j oj t hoj' hoj hd hd'
        rw [← hjj, h1] at hS'
        cases hS'
      have e2 := hE.off t fun j' oj' _ _ hS' hoj' hd' => by
        have hjj : j = j' := D.once j' oj' j oj t hoj' hoj hd hd'
        simp only [decide_eq_true_eq] at hS'
        omega
      rw [e1, e2]
    rcases D.waits (s + i) o j oj t ho hoj hd ht with rfl | ⟨hlt, x, hxm, hb, hon⟩ | ⟨hlt, x, hxm, hb, hon⟩
    · exact off hi0 (Nat.le_refl _)
    · have := hS x hxm hb
      rw [hon] at this
      rw [h.on j oj t hsj hj this hoj hd, hE.on j oj t hsj hj (by simpa using hlt) hoj hd]
    · refine off ?_ (by omega)
      cases hSj : S j with
      | false => rfl
      | true =>
        have := hcl j oj hoj hSj x hxm hb
        rw [hon, hi0] at this; cases this
  · have hx' : ∀ (j : Nat) (oj : Oper), s ≤ j → j < k → ops[j]? = some oj → oj.dst ≠ some t := fun j oj hsj hj hoj hd => hx ⟨j, oj, hsj, hj, hoj, hd⟩
    rw [h.off t fun j oj hsj hj _ hoj => hx' j oj hsj hj hoj, hE.off t fun j oj hsj hj _ hoj => hx' j oj hsj hj hoj]

theorem sink_waits {ops : Array Oper} {k : Nat} (hs : Region.sinkB .any ops k = true) {L : Array Bool} (inv : HeadInv .any ops k L) : ∀ (u i0 : Nat), k - i0 = u → i0 < k → L.getD i0 false = false → k ∉ Region.ready .any ops L := by
  intro u
  induction u using Nat.strongRecOn with
  | _ u ih =>
    intro i0 hu hi0 hl hr
    have h1 := List.all_eq_true.1 hs i0 (List.mem_range.2 hi0)
    obtain ⟨j, hj, h2⟩ := List.any_eq_true.1 h1
    simp only [Bool.and_eq_true, decide_eq_true_eq] at h2
    have hjk := List.mem_range.1 hj
    obtain ⟨oj, hoj, x, hx, hb, hon⟩ := Region.waitsFor_spec h2.2
    by_cases hjk' : j = k
    · subst hjk'
      obtain ⟨_, o', ho', hall⟩ := mem_ready.1 hr
      have : o' = oj := by simpa [hoj] using ho'.symm
      subst this
      have := hall x hx hb
      rw [hon, hl] at this; cases this
    · cases hlj : L.getD j false with
      | true =>
        have := inv.closed j oj hoj hlj x hx hb
        rw [hon, hl] at this; cases this
      | false => exact ih (k - j) (by omega) j rfl (by omega) hlj hr

theorem down_waits {ops : Array Oper} {k : Nat} (hc : cutB ops k = true) {L : Array Bool} (ht : ∀ j, k ≤ j → j < ops.size → L.getD j true = false) {i : Nat} (hik : k < i) : i ∉ Region.ready .any ops L := by
  intro hr
  obtain ⟨_, o, ho, hall⟩ := mem_ready.1 hr
  have hi := (Array.getElem?_eq_some_iff.1 ho).1
  simp only [cutB, Bool.and_eq_true] at hc
  have h1 := List.all_eq_true.1 hc.2 i (List.mem_range.2 hi)
  simp only [Bool.or_eq_true, decide_eq_true_eq] at h1
  rcases h1 with h1 | h1
  · omega
  · obtain ⟨j, hj, h2⟩ := List.any_eq_true.1 h1
    simp only [Bool.and_eq_true, decide_eq_true_eq] at h2
    have hji := List.mem_range.1 hj
    obtain ⟨oj, hoj, x, hx, hb, hon⟩ := Region.waitsFor_spec h2.2
    have : oj = o := by simpa [ho] using hoj.symm
    subst this
    have h3 := hall x hx hb
    have h4 := ht j h2.1 (by omega)
    rw [hon, getD_both h4] at h3; cases h3

theorem exec_same {ops : Array Oper} {o : Oper} {env env' : Fr} (hp : ∀ cs b, o.op ≠ .select cs b) (h : ∀ t ∈ o.looksAt ops, env.v t = env'.v t) : execOp (ev env) o = execOp (ev env') o := by
  refine execOp_congr o hp fun x hx => ?_
  cases x with
  | tmp t => exact h t (List.mem_append_left _ (List.mem_filterMap.2 ⟨.tmp t, by simpa using hx, rfl⟩))
  | _ => rfl

theorem gd_same {ops : Array Oper} {o : Oper} {env env' : Fr} (h : ∀ t ∈ o.looksAt ops, env.v t = env'.v t) : gd ops o env = gd ops o env' := by
  unfold gd
  cases hg : o.guard with
  | none => rfl
  | some g =>
    obtain ⟨j, want⟩ := g
    simp only
    cases hd : (ops[j]?).bind (·.dst) with
    | none => rfl
    | some t =>
      simp only
      rw [h t (by simp [Oper.looksAt, hg, hd])]

theorem Yield.same {c : Bool} {σ : St} {o : Oper} {ρ ρ' : Operand → Value} {v : Value} (h : Yield P B c σ o ρ v) (he : execOp ρ' o = execOp ρ o) : Yield P B c σ o ρ' v := by
  intro m w hm hw
  rw [he]
  exact h m w hm hw

/-- The sequential tail. -/
theorem tail_any {r : Option Nat} {n : Nat} {ops : Array Oper} (D : Dok ops) {k : Nat} (hc : Region.chainB .any ops k = true) {Q : Exit → Act → World → Prop} {K : Fr → St → Prop}
    (hdst : ∀ (i : Nat) (o : Oper), ops[i]? = some o → ∀ t, o.dst = some t → t < n) :
    ∀ (l : List Oper) (t : Nat) (f : Nat) (L : Array Bool) (e : Fr) (σ : St) (a : Act) (w : World), k ≤ t → (∀ j, l[j]? = ops[t + j]?) → L.size = ops.size → t + l.length = ops.size →
      (∀ j, j < t → L.getD j false = true) → (∀ j, t ≤ j → j < ops.size → L.getD j true = false) → l.length ≤ f → Is a n e → Rel B w σ → runL P B ops l K e σ →
      (∀ a' e' σ' w', Is a' n e' → Rel B w' σ' → K e' σ' → Q .normal a' w') → wpAnyIn (FR r) 0 P .any ops Q f L a w
  | [], t, f, L, e, σ, a, w, hkt, hl, hL, hsz, h1, h2, hf, ha, hw, h, hn => by
    have hr : Region.ready .any ops L = [] := by
      apply List.eq_nil_iff_forall_not_mem.2
      intro i hi
      obtain ⟨hu, o, ho, _⟩ := mem_ready.1 hi
      have hlt := (Array.getElem?_eq_some_iff.1 ho).1
      have := h1 i (by simp at hsz; omega)
      rw [getD_both hu] at this
      cases this
    have hQ := hn _ _ _ _ ha hw h
    cases f with
    | zero => exact ⟨hr, hQ⟩
    | succ f => exact ⟨fun _ => hQ, fun i hi => by rw [hr] at hi; cases hi⟩
  | o :: l, t, f, L, e, σ, a, w, hkt, hl, hL, hsz, h1, h2, hf, ha, hw, h, hn => by
    cases f with
    | zero => simp at hf
    | succ f =>
      have ho : ops[t]? = some o := by simpa using (hl 0).symm
      have htlt : t < ops.size := (Array.getElem?_eq_some_iff.1 ho).1
      have htr : t ∈ Region.ready .any ops L := mem_ready.2 ⟨h2 t (Nat.le_refl _) htlt, o, ho, fun x hx hb => h1 _ (D.ahead t o ho x hx hb)⟩
      refine ⟨fun h0 => (by rw [h0] at htr; cases htr), fun i hi => ?_⟩
      obtain ⟨hu, oi, hoi, hall⟩ := mem_ready.1 hi
      have hilt := (Array.getElem?_eq_some_iff.1 hoi).1
      have hit : i = t := by
        rcases Nat.lt_trichotomy i t with hlt | he | hgt
        · have := h1 i hlt; rw [getD_both hu] at this; cases this
        · exact he
        · have hcc := List.all_eq_true.1 hc i (List.mem_range.2 hilt)
          simp only [Bool.or_eq_true, decide_eq_true_eq] at hcc
          rcases hcc with hcc | hcc
          · omega
          · obtain ⟨o', ho', x, hx, hb, hon⟩ := Region.waitsFor_spec hcc
            have : o' = oi := by simpa [hoi] using ho'.symm
            subst this
            have h3 := hall x hx hb
            rw [hon] at h3
            have h4 := h2 (i - 1) (by omega) (by omega)
            rw [getD_both h4] at h3
            cases h3
      subst hit
      have : oi = o := by simpa [ho] using hoi.symm
      subst this
      have hl' : ∀ j, l[j]? = ops[i + 1 + j]? := fun j => by have := hl (j + 1); simpa [Nat.add_assoc, Nat.add_comm 1 j] using this
      simp only [List.length_cons] at hsz hf
      have hnext : ∀ a' e' σ' w', Is a' n e' → Rel B w' σ' → runL P B ops l K e' σ' → wpAnyIn (FR r) 0 P .any ops Q f (L.setIfInBounds i true) a' w' := fun a' e' σ' w' ha' hw' h' =>
        tail_any D hc hdst l (i + 1) f (L.setIfInBounds i true) e' σ' a' w' (by omega) hl' (by simp [hL]) (by omega)
          (fun j hj => by
            by_cases hji : j = i
            · subst hji; simp [hL, htlt]
            · rw [getD_set_ne false (Ne.symm hji)]; exact h1 j (by omega))
          (fun j hj hj' => by rw [getD_set_ne true (by omega)]; exact h2 j (by omega) hj') (by omega) ha' hw' h' hn
      unfold wpOpIn
      simp only [ho, wanted_gd ha]
      cases hg : gd ops oi e with
      | true =>
        simp only [if_true]
        exact opS_wp (.inr (D.plain i oi ho).2) (hdst i oi ho) ha hw (h.1 hg) hnext
      | false =>
        simp only [Bool.false_eq_true, if_false]
        exact ⟨fun _ _ => trivial, hnext _ _ _ _ (ha.put _ _ (hdst i oi ho)) hw (h.2 hg)⟩

theorem pure_run {p : Op} {ρ : Operand → Value} {σ : St} {v : Value} (hp : pureB p = true) (h : qv P B p ρ σ = some v) (o : Oper) (ho : o.op = p) (w : World) : (execOp ρ o).run P w = .ok (.value v) w := by
  refine run_qv (B := w) (Rel.start w) ?_ o ho
  cases p <;> first | exact h | cases hp
theorem pure_about {o : Oper} (hp : pureB o.op = true) (w : World) (ρ : Operand → Value) : o.about P w ρ = none := by
  unfold Oper.about
  cases ho : o.op <;> first | rfl | skip
  rw [ho] at hp; cases hp
theorem pure_q {p : Op} (hp : pureB p = true) : isQ p = true := by cases p <;> first | rfl | cases hp

theorem atS_spec {ops : Array Oper} {X : Fr → St → Prop} {e : Fr} {σ : St} : ∀ (l : List Oper) (i : Nat), atS P B i ops l X e σ → ∃ o, l[i]? = some o ∧ brS (gd ops o e) (opS P B o X) (skipK o.dst X) e σ
  | [], _, h => (by simp [atS] at h)
  | o :: l, 0, h => ⟨o, rfl, h⟩
  | o :: l, i + 1, h => by simpa using atS_spec l i h

/-- What is left of a region from the 's'-th operation on. -/
theorem seg_wp {r : Option Nat} {n : Nat} {ops : Array Oper} (D : Dok ops) {Q : Exit → Act → World → Prop} {K : Fr → St → Prop}
    (hdst : ∀ (i : Nat) (o : Oper), ops[i]? = some o → ∀ t, o.dst = some t → t < n) (hn : ∀ a' e' σ' w', Is a' n e' → Rel B w' σ' → K e' σ' → Q .normal a' w') :
    ∀ (N s : Nat) (l : List Oper) (c : DC) (e : Fr) (σ : St) (a : Act) (w : World) (f : Nat) (L : Array Bool), ops.size - s = N → (∀ j, l[j]? = ops[s + j]?) → s + l.length = ops.size → L.size = ops.size →
      (∀ j, j < s → L.getD j false = true) → (∀ j, s ≤ j → j < ops.size → L.getD j true = false) → ops.size - s ≤ f → Is a n e → Rel B w σ → c.rn = false → runD P B ops s l K c e σ →
      wpAnyIn (FR r) 0 P .any ops Q f L a w := by
  intro N
  induction N using Nat.strongRecOn with
  | _ N IH =>
  intro s l c e σ a w f L hN hl hlen hL hbelow habove hf ha hw hrn h
  rcases vals_of_runD l s e hl h with ⟨d, vals, hd, hsp, hend⟩ | ⟨hr, _⟩
  rotate_left
  · rw [hrn] at hr; cases hr
  generalize hk' : s + d = k at *
  have hk : k ≤ ops.size := by omega
  have hfull := envF_isEnv D vals e s k hk d (by omega)
  have head : ∀ (u f : Nat) (L : Array Bool) (env : Fr) (a : Act) (w : World) (m : Nat), (List.range k).countP (fun j => !L.getD j false) = u → u + (ops.size - k) ≤ f → HeadInv .any ops k L → (∀ j, j < s → L.getD j false = true) →
      IsEnv ops vals e s k (fun j => L.getD j false) env → Is a n env → CL c.c σ m → Rel B w (σ.up m) → wpAnyIn (FR r) 0 P .any ops Q f L a w := by
    intro u
    induction u with
    | zero =>
      intro f L env a w m hu hf inv hlow hI ha hm hw
      have hall : ∀ j, j < k → L.getD j false = true := fun j hj => by
        have := List.countP_eq_zero.1 hu j (List.mem_range.2 hj)
        simpa using this
      have henv : env = envF ops vals e s d := (hI.congr (S' := fun j => decide (j < s + d)) fun j hsj hj => by simp only [hall j hj, hk']; simpa using hj).unique hfull
      subst henv
      rcases hend with ⟨e1, h1⟩ | ⟨e1, h1, h2⟩ | ⟨o, rest, e1, h1, hg, h2⟩
      · have hr : Region.ready .any ops L = [] := by
          apply List.eq_nil_iff_forall_not_mem.2
          intro i hi
          obtain ⟨hu', o, ho, _⟩ := mem_ready.1 hi
          have hlt := (Array.getElem?_eq_some_iff.1 ho).1
          have := hall i (by omega)
          rw [getD_both hu'] at this
          cases this
        have hQ := hn _ _ _ _ ha hw (upto_at h1 hm)
        cases f with
        | zero => exact ⟨hr, hQ⟩
        | succ f => exact ⟨fun _ => hQ, fun i hi => by rw [hr] at hi; cases hi⟩
      · simp only [tailB, Bool.and_eq_true] at h1
        refine tail_any D h1.2 hdst (l.drop d) k f L _ (σ.up m) a w (Nat.le_refl _) (fun j => by rw [List.getElem?_drop, hl]; congr 1; omega) inv.size (by simp; omega) hall (fun j hj hj' => inv.tail j hj hj') (by simp; omega) ha hw (upto_at h2 hm) hn
      · have hdl : d < l.length := by
          rcases Nat.lt_or_ge d l.length with h | h
          · exact h
          · rw [List.drop_eq_nil_of_le h] at e1; cases e1
        have ho : ops[k]? = some o := by
          have h3 : (l.drop d)[0]? = some o := by rw [e1]; rfl
          rw [List.getElem?_drop, hl] at h3
          rw [← h3]; congr 1; omega
        have hks : k < ops.size := by omega
        have hkr : k ∈ Region.ready .any ops L := mem_ready.2 ⟨inv.tail k (Nat.le_refl _) hks, o, ho, fun x hx hb => hall _ (D.ahead k o ho x hx hb)⟩
        cases f with
        | zero => omega
        | succ f =>
          refine ⟨fun h0 => (by rw [h0] at hkr; cases hkr), fun i hi => ?_⟩
          have hik : i = k := by
            rcases Nat.lt_trichotomy i k with hlt | he | hgt
            · have := hall i hlt; rw [getD_both (mem_ready.1 hi).1] at this; cases this
            · exact he
            · exact absurd hi (down_waits h1 (fun j hj hj' => inv.tail j hj hj') hgt)
          subst hik
          unfold wpOpIn
          simp only [ho, wanted_gd ha, hg, if_true]
          have h3 : opS P B o (runD P B ops (i + 1) rest K { c with rn := false }) (envF ops vals e s d) (σ.up m) := upto_at h2 hm
          refine opS_wp (.inr (D.plain i o ho).2) (hdst i o ho) ha hw h3 fun a' e' σ' w' ha' hw' h' => ?_
          have hrest : ∀ j, rest[j]? = ops[i + 1 + j]? := fun j => by
            have h4 : (l.drop d)[j + 1]? = rest[j]? := by rw [e1]; rfl
            rw [List.getElem?_drop, hl] at h4
            rw [← h4]; congr 1; omega
          have hrl : rest.length + 1 = l.length - d := by
            have := congrArg List.length e1
            simpa using this.symm
          refine IH (ops.size - (i + 1)) (by omega) (i + 1) rest { c with rn := false } e' σ' a' w' f (L.setIfInBounds i true) rfl hrest (by omega) (by simp [inv.size]) (fun j hj => ?_) (fun j hj hj' => ?_) (by omega) ha' hw' rfl h'
          · by_cases hji : j = i
            · subst hji
              have : j < L.size := by rw [inv.size]; exact hks
              simp [this]
            · rw [getD_set_ne false (Ne.symm hji)]; exact hall j (by omega)
          · rw [getD_set_ne true (by omega)]; exact inv.tail j (by omega) hj'
    | succ u ih =>
      intro f L env a w m hu hf inv hlow hI ha hm hw
      -- someone of the head is ready
      have hex : ∃ i, i < k ∧ L.getD i false = false := by
        by_cases hx : ∃ i, i < k ∧ L.getD i false = false
        · exact hx
        · exfalso
          have : (List.range k).countP (fun j => !L.getD j false) = 0 := List.countP_eq_zero.2 fun j hj => by
            have hj' := List.mem_range.1 hj
            cases hl : L.getD j false with
            | true => simp
            | false => exact absurd ⟨j, hj', hl⟩ hx
          omega
      have hleast : ∃ i, i < k ∧ L.getD i false = false ∧ ∀ j, j < i → L.getD j false = true := by
        obtain ⟨i, hi, hl⟩ := hex
        induction i using Nat.strongRecOn with
        | _ i ihi =>
          by_cases hx : ∃ j, j < i ∧ L.getD j false = false
          · obtain ⟨j, hj, hlj⟩ := hx; exact ihi j hj (by omega) hlj
          · refine ⟨i, hi, hl, fun j hj => ?_⟩
            cases hlj : L.getD j false with
            | true => rfl
            | false => exact absurd ⟨j, hj, hlj⟩ hx
      obtain ⟨i0, hi0, hl0, hbelow0⟩ := hleast
      have hi0s : i0 < ops.size := by omega
      have hr0 : i0 ∈ Region.ready .any ops L := mem_ready.2 ⟨getD_in (by rw [inv.size]; exact hi0s) hl0, ops[i0], by simp [hi0s], fun x hx hb => hbelow0 _ (D.ahead i0 _ (by simp [hi0s]) x hx hb)⟩
      cases f with
      | zero => omega
      | succ f =>
        refine ⟨fun h0 => (by rw [h0] at hr0; cases hr0), fun i hi => ?_⟩
        obtain ⟨hun, o, ho, hall⟩ := mem_ready.1 hi
        have hilt := (Array.getElem?_eq_some_iff.1 ho).1
        have hik : i < k := by
          rcases Nat.lt_or_ge i k with hlt | hge
          · exact hlt
          · rcases hend with ⟨e1, _⟩ | ⟨e1, h1, _⟩ | ⟨_, _, _, h1, _⟩
            · omega
            · simp only [tailB, Bool.and_eq_true] at h1
              exact absurd hi (tail_waits h1.1 h1.2 (by omega) inv _ i0 rfl hi0 (getD_in (by rw [inv.size]; exact hi0s) hl0) i hge)
            · by_cases hik : i = k
              · subst hik
                have h1' := h1
                simp only [cutB, Bool.and_eq_true] at h1'
                exact absurd hi (sink_waits h1'.1 inv _ i0 rfl hi0 hl0)
              · exact absurd hi (down_waits h1 (fun j hj hj' => inv.tail j hj hj') (by omega))
        have hsi : s ≤ i := by
          rcases Nat.lt_or_ge i s with hlt | hge
          · have := hlow i hlt; rw [getD_both hun] at this; cases this
          · exact hge
        obtain ⟨j, rfl⟩ : ∃ j, i = s + j := ⟨i - s, by omega⟩
        have hlook := looks_same D hk hI hik ho hall (getD_both hun) (fun j oj hoj hSj x hx hb => inv.closed j oj hoj hSj x hx hb)
        have hexec := exec_same (D.plain _ o ho).1 hlook
        have hgd := gd_same hlook
        have hcount : (List.range k).countP (fun j' => !(L.setIfInBounds (s + j) true).getD j' false) = u := by
          have := (countP_upd (p := fun j => !L.getD j false) (p' := fun j' => !(L.setIfInBounds (s + j) true).getD j' false) (i := s + j) (by simp only [getD_both hun]; rfl) (by
            have : s + j < L.size := by rw [inv.size]; exact hilt
            simp [this]) (fun j' hj => by simp only [getD_set_ne false (Ne.symm hj)]) k).2 hik
          omega
        have hnext : ∀ (a' : Act) (w' : World) (m' : Nat), Is a' n (env.put o.dst (vals (s + j))) → CL c.c σ m' → Rel B w' (σ.up m') → wpAnyIn (FR r) 0 P .any ops Q f (L.setIfInBounds (s + j) true) a' w' := fun a' w' m' ha' hm' hw' =>
          ih f (L.setIfInBounds (s + j) true) (env.put o.dst (vals (s + j))) a' w' m' hcount (by omega) (inv.set hi hik)
            (fun j' hj' => by rw [getD_set_ne false (by omega)]; exact hlow j' hj')
            ((hI.step D hsi hik ho).congr fun j' hsj' hj' => by
              by_cases hji : j' = s + j
              · subst hji
                have : s + j < L.size := by rw [inv.size]; exact hilt
                simp [this]
              · simp only [hji, if_false, getD_set_ne false (Ne.symm hji)]) ha' hm' hw'
        have hs := hsp j o (by omega) ho
        unfold wpOpIn
        simp only [ho, wanted_gd ha, hgd]
        rcases hs with ⟨hg, hy⟩ | ⟨hg, hv⟩
        · simp only [hg, if_true]
          refine ⟨fun _ _ => trivial, ?_⟩
          rw [Oper.semAt_eq _ _ _ (D.plain _ o ho).2, ha.eval, hexec]
          refine (hy m w hm hw).upon fun v σ' w' hw' hK => ?_
          obtain ⟨rfl, m', hm', rfl⟩ := hK
          exact hnext _ _ m' (ha.put _ _ (hdst _ o ho)) hm' hw'
        · simp only [hg, Bool.false_eq_true, if_false]
          refine ⟨fun _ _ => trivial, ?_⟩
          have := hnext (a.put o.dst undef) w m (by rw [hv]; exact ha.put _ _ (hdst _ o ho)) hm hw
          exact this
  have inv0 : HeadInv .any ops k L := by
    refine ⟨hL, fun j oj hoj hlj x hx hb => ?_, fun t ht ht' => habove t (by omega) ht'⟩
    have hjs : j < s := by
      rcases Nat.lt_or_ge j s with hlt | hge
      · exact hlt
      · have := habove j hge (Array.getElem?_eq_some_iff.1 hoj).1
        rw [getD_both this] at hlj; cases hlj
    have := D.ahead j oj hoj x hx hb
    exact hbelow _ (by omega)
  have hcnt : (List.range k).countP (fun j => !L.getD j false) = d := by
    have e1 : List.range k = List.range s ++ (List.range d).map (s + ·) := by rw [← hk']; exact List.range_add
    rw [e1, List.countP_append]
    have e2 : (List.range s).countP (fun j => !L.getD j false) = 0 := List.countP_eq_zero.2 fun j hj => by simp [hbelow j (List.mem_range.1 hj)]
    have e3 : ((List.range d).map (s + ·)).countP (fun j => !L.getD j false) = ((List.range d).map (s + ·)).length := List.countP_eq_length.2 fun j hj => by
      obtain ⟨i, hi, rfl⟩ := List.mem_map.1 hj
      have := List.mem_range.1 hi
      rw [getD_both (habove (s + i) (by omega) (by omega))]; rfl
    rw [e2, e3]; simp
  refine head d f L e a w σ.n hcnt (by omega) inv0 hbelow ?_ ha (by cases c.c <;> simp [CL]) (by rw [St.up_self]; exact hw)
  exact ⟨fun j o t hsj hj hS => (by rw [getD_both (habove j hsj (by omega))] at hS; cases hS), fun t _ => rfl, rfl⟩

theorem runD_rn {ops : Array Oper} {K : Fr → St → Prop} : ∀ (l : List Oper) (i : Nat) (c : DC) (e : Fr) (σ : St), runD P B ops i l K c e σ → runD P B ops i l K { c with rn := false } e σ ∨ (c.rn = true ∧ AnyS P B ops K c.e σ)
  | [], i, c, e, σ, h => .inl h
  | o :: l, i, c, e, σ, h => by
    simp only [runD] at h ⊢
    cases hg : gd ops o e with
    | false =>
      have h1 := h.2 hg
      rcases runD_rn l (i + 1) c _ σ h1 with h2 | h2
      · exact .inl ⟨fun hx => (by cases hx), fun _ => h2⟩
      · exact .inr h2
    | true =>
      have h1 := h.1 hg
      unfold opX at h1 ⊢
      cases hq : isQ o.op with
      | true =>
        rw [hq] at h1
        obtain ⟨v, hv, hr⟩ := h1
        rcases runD_rn l (i + 1) c _ σ hr with h2 | h2
        · exact .inl ⟨fun _ => ⟨v, hv, h2⟩, fun hx => (by cases hx)⟩
        · exact .inr h2
      | false =>
        rw [hq] at h1
        rcases h1 with ⟨ht, hr⟩ | ⟨ht, hr⟩ | ⟨hc, v, hv, hr⟩ | hp
        · exact .inl ⟨fun _ => .inl ⟨ht, hr⟩, fun hx => (by cases hx)⟩
        · exact .inl ⟨fun _ => .inr (.inl ⟨ht, hr⟩), fun hx => (by cases hx)⟩
        · rcases runD_rn l (i + 1) c _ σ hr with h2 | h2
          · exact .inl ⟨fun _ => .inr (.inr (.inl ⟨hc, v, hv, h2⟩)), fun hx => (by cases hx)⟩
          · exact .inr h2
        · exact .inr hp

/-- **A REGION THAT DRAWS ITS ORDER.** -/
theorem draw_wp {r : Option Nat} {n : Nat} {id : Nat} {ops : Array Oper} (hm : P.follows .mixedOrders = true) (hD : dok ops = true) {Q : Exit → Act → World → Prop} {K : Fr → St → Prop}
    (hdst : ∀ (i : Nat) (o : Oper), ops[i]? = some o → ∀ t, o.dst = some t → t < n) {e : Fr} {σ : St} {a : Act} {w : World} (ha : Is a n e) (hw : Rel B w σ) (h : drawS P B ops K e σ)
    (hn : ∀ a' e' σ' w', Is a' n e' → Rel B w' σ' → K e' σ' → Q .normal a' w') : (Code.region id ops true).wpIn (FR r) 0 P Q a w := by
  have D := dok_spec hD
  rcases runD_rn _ _ _ _ _ h with h | ⟨hr, h⟩
  · refine wpIn_region_any hm ?_
    exact seg_wp D hdst hn ops.size 0 ops.toList _ e σ a _ ops.size (Array.replicate ops.size false) rfl (fun j => by simp) (by simp) (by simp) (fun j hj => by omega)
      (fun j _ hj => getD_in (by simpa using hj) (getD_replicate_false _ _)) (by omega) ha (hw.drawn _) rfl h
  · exact h r n id Q a w hm hD hdst ha hw hn
end
end Go.Proofs.YtdbgeahmhfocaaaGreat
