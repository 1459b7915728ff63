/- The texts of this proof, part 2: the engine, the walks and the plain laws, in their order. -/
import Derived.Test.YtdbgeahmhfocaaaGreatPart1
import Derived.WalkKit
import Derived.ProofKit
import Derived.OpenShut
import Derived.ShutString
import Derived.ChangeOld
import Derived.Deep.Slices
import Derived.Test.YtdbgeahmhfocaaaGreatRows
/- A region that draws its order, gone through by a plan: a quiet operation is taken first, though others that write might run ahead of it, if it yields the same behind each of them. -/
namespace Go.Proofs.YtdbgeahmhfocaaaGreat
set_option linter.unusedSimpArgs false
set_option linter.unusedVariables false
open Go Go.RowKit

section
variable {P : Program} {B : World} {ops : Array Oper} {Q : Exit → Act → World → Prop} {r : Option Nat}

/-- The operation yields 'v' here. -/
def Yd (P : Program) (ops : Array Oper) (o : Oper) (v : Value) (a : Act) (w : World) : Prop :=
  (Region.wanted o (yielded ops a.tmps) = true ∧ (execOp a.eval o).run P w = .ok (.value v) w) ∨ (Region.wanted o (yielded ops a.tmps) = false ∧ v = undef)

theorem Yd.op {i : Nat} {o : Oper} {v : Value} {a : Act} {w : World} {K : Act → World → Prop} (hi : ops[i]? = some o) (hd : ∀ c, o.op ≠ .defer c) (hy : Yd P ops o v a w) (h : K (a.put o.dst v) w) :
    wpOpIn (FR r) 0 P ops Q i K a w := by
  unfold wpOpIn
  simp only [hi]
  rcases hy with ⟨hw, hv⟩ | ⟨hw, rfl⟩
  · simp only [hw, if_true]
    refine ⟨fun _ _ => trivial, ?_⟩
    rw [Oper.semAt_eq _ _ _ hd, hv]
    exact h
  · simp only [hw, Bool.false_eq_true, if_false]
    exact ⟨fun _ _ => trivial, h⟩

theorem upon_late {o : Oper} {d : Option Tmp} {v : Value} {a : Act} {next : Act → World → Prop} (hQ : ∀ c a w, ¬ Q (.panic c) a w) (hd : ∀ t, d = some t → o.dst ≠ some t) {x : Result Next}
    (h : o.uponIn (FR r) 0 P (a.put d v) next Q x) : o.uponIn (FR r) 0 P a (fun a' w' => next (a'.put d v) w') Q x := by
  have hc : ∀ u, (a.put o.dst u).put d v = (a.put d v).put o.dst u := fun u => (Act.put_comm a v u hd).symm
  cases x with
  | halt x w' =>
    cases x <;> first | exact h | skip
    exact absurd h (hQ _ _ _)
  | ok x w' =>
    cases x with
    | value u => show next _ _; rw [hc]; exact h
    | skip => show next _ _; rw [hc]; exact h
    | defer y =>
      show next _ _
      have h' : next (({ a.put d v with defers := y :: (a.put d v).defers } : Act).put o.dst undef) w' := h
      rw [Act.put_defers, Act.put_comm _ v undef hd] at h'
      exact h'
    | enter f args =>
      refine ⟨h.1, CallsIn.mono h.2 fun e w'' he => ?_⟩
      cases e with
      | returned u => show next _ _; rw [hc]; exact he
      | panicked c => exact absurd he (hQ _ _ _)
      | outgrown => exact he
    | row row args => exact ⟨h.1, RowsIn.mono h.2 fun u w'' he => by show next _ _; rw [hc]; exact he⟩
    | round l f tmps x y =>
      refine ⟨h.1, RoundIn.mono h.2 fun e w'' he => ?_⟩
      cases e with
      | returned u => show next _ _; rw [hc]; exact he
      | panicked c => exact absurd he (hQ _ _ _)
      | outgrown => exact he
    | _ => exact h

theorem op_late {j : Nat} {o : Oper} {d : Option Tmp} {v : Value} {a : Act} {w : World} {K : Act → World → Prop} (hj : ops[j]? = some o) (hQ : ∀ c a w, ¬ Q (.panic c) a w) (hs : ∀ cs b, o.op ≠ .select cs b) (hdf : ∀ c, o.op ≠ .defer c)
    (hl : ∀ t, d = some t → t ∉ o.looksAt ops) (hd : ∀ t, d = some t → o.dst ≠ some t) (h : wpOpIn (FR r) 0 P ops Q j K (a.put d v) w) : wpOpIn (FR r) 0 P ops Q j (fun a' w' => K (a'.put d v) w') a w := by
  unfold wpOpIn at h ⊢
  simp only [hj] at h ⊢
  rw [wanted_put o a d v hl] at h
  split
  · rename_i hw
    simp only [hw, if_true] at h
    refine ⟨fun _ _ => trivial, ?_⟩
    have h2 := h.2
    rw [Oper.semAt_eq _ _ _ hdf, execOp_put o hs a d v hl] at h2
    rw [Oper.semAt_eq _ _ _ hdf]
    exact upon_late hQ hd h2
  · rename_i hw
    simp only [hw] at h
    refine ⟨fun _ _ => trivial, ?_⟩
    rw [← Act.put_comm a v undef hd]
    exact h.2

/-- An operation writes its own slot alone. -/
theorem op_frame {j : Nat} {o : Oper} {a : Act} {w : World} {K : Act → World → Prop} (hj : ops[j]? = some o) (hQ : ∀ c a w, ¬ Q (.panic c) a w)
    (h : wpOpIn (FR r) 0 P ops Q j K a w) : wpOpIn (FR r) 0 P ops Q j (fun a' w' => (∃ u ds, a' = { a.put o.dst u with defers := ds }) ∧ K a' w') a w := by
  unfold wpOpIn at h ⊢
  simp only [hj] at h ⊢
  have triv : ∀ u, ∃ u' ds, a.put o.dst u = { a.put o.dst u' with defers := ds } := fun u => ⟨u, (a.put o.dst u).defers, rfl⟩
  split
  · rename_i hw
    simp only [hw, if_true] at h
    refine ⟨fun _ _ => trivial, ?_⟩
    have h2 := h.2
    revert h2
    generalize (o.semAt (FR r).round a.eval).run P w = x
    intro h
    cases x with
    | halt x w' =>
      cases x <;> first | exact h | skip
    | ok x w' =>
      cases x with
      | value u => exact ⟨triv _, h⟩
      | skip => exact ⟨triv _, h⟩
      | defer y => exact ⟨⟨undef, _, by rw [Act.put_defers]⟩, h⟩
      | enter f args =>
        refine ⟨h.1, CallsIn.mono h.2 fun e w'' he => ?_⟩
        cases e with
        | returned u => exact ⟨triv _, he⟩
        | panicked c => exact absurd he (hQ _ _ _)
        | outgrown => exact he
      | row row args => exact ⟨h.1, RowsIn.mono h.2 fun u w'' he => ⟨triv _, he⟩⟩
      | round l f tmps x y =>
        refine ⟨h.1, RoundIn.mono h.2 fun e w'' he => ?_⟩
        cases e with
        | returned u => exact ⟨triv _, he⟩
        | panicked c => exact absurd he (hQ _ _ _)
        | outgrown => exact he
      | _ => exact h
  · rename_i hw
    simp only [hw] at h
    exact ⟨fun _ _ => trivial, triv _, h.2⟩

/-- Does the j-th operation wait for the i-th, through any chain? By masks. -/
def wt (W : List Nat) (j i : Nat) : Bool := (W.getD j 0).testBit i
def waitsOk (ops : Array Oper) (W : List Nat) : Bool := (List.range ops.size).all fun j => (List.range ops.size).all fun i => !wt W j i ||
  (match ops[j]? with | some o => o.after.any fun e => Region.binds .any e && decide (e.on < j) && (e.on == i || wt W e.on i) | none => false)
def Closed (ops : Array Oper) (L : Array Bool) : Prop := ∀ (j : Nat) (o : Oper), ops[j]? = some o → L.getD j false = true → ∀ x ∈ o.after, Region.binds .any x = true → L.getD x.on false = true
theorem wt_closed {W : List Nat} (hW : waitsOk ops W = true) {L : Array Bool} (hc : Closed ops L) {i : Nat} (hi : i < ops.size) : ∀ (j : Nat) (o : Oper), ops[j]? = some o → (∀ x ∈ o.after, Region.binds .any x = true → L.getD x.on false = true) → wt W j i = true → L.getD i false = true := by
  intro j
  induction j using Nat.strongRecOn with
  | _ j ih =>
    intro o ho hd h
    have hj := (Array.getElem?_eq_some_iff.1 ho).1
    have h1 := List.all_eq_true.1 (List.all_eq_true.1 hW j (List.mem_range.2 hj)) i (List.mem_range.2 hi)
    rw [h, ho] at h1
    simp only [Bool.not_true, Bool.false_or] at h1
    obtain ⟨x, hx, hb⟩ := Array.any_eq_true'.1 h1
    simp only [Bool.and_eq_true, Bool.or_eq_true, beq_iff_eq, decide_eq_true_eq] at hb
    obtain ⟨⟨hb, hlt⟩, h2⟩ := hb
    have hl := hd x hx hb
    rcases h2 with h2 | h2
    · rw [← h2]; exact hl
    · have hxs : x.on < ops.size := by omega
      exact ih x.on hlt ops[x.on] (by simp [hxs]) (hc x.on _ (by simp [hxs]) hl) h2

/-- What is still to hold of the pending ones. -/
def Pend (P : Program) (ops : Array Oper) (W : List Nat) (ps : List (Nat × Oper × Value)) (j : Nat) (a : Act) (w : World) : Prop :=
  ∀ x ∈ ps, wt W j x.1 = false → Yd P ops x.2.1 x.2.2 a w

def wpT (r : Option Nat) (P : Program) (ops : Array Oper) (W : List Nat) (Q : Exit → Act → World → Prop) (tk : List Nat) (ps : List (Nat × Oper × Value)) : Nat → Array Bool → Act → World → Prop
  | 0, L, a, w => Region.ready .any ops L = [] ∧ Q .normal a w
  | f + 1, L, a, w => (Region.ready .any ops L = [] → Q .normal a w) ∧ ∀ i ∈ Region.ready .any ops L,
      (i ∈ tk → ∃ o v, ops[i]? = some o ∧ Yd P ops o v a w ∧ wpT r P ops W Q tk ps f (L.setIfInBounds i true) (a.put o.dst v) w) ∧
      (i ∉ tk → wpOpIn (FR r) 0 P ops Q i (fun a' w' => Pend P ops W ps i a' w' ∧ wpT r P ops W Q tk ps f (L.setIfInBounds i true) a' w') a w)

variable {W : List Nat}

theorem wpT_weak {tk : List Nat} {x : Nat × Oper × Value} {ps : List (Nat × Oper × Value)} : ∀ (f : Nat) (L : Array Bool) (a : Act) (w : World), wpT r P ops W Q tk (x :: ps) f L a w → wpT r P ops W Q tk ps f L a w
  | 0, L, a, w, h => h
  | f + 1, L, a, w, h => ⟨h.1, fun i hi => ⟨fun ht => let ⟨o, v, h1, h2, h3⟩ := (h.2 i hi).1 ht; ⟨o, v, h1, h2, wpT_weak f _ _ _ h3⟩,
      fun ht => wpOpIn_mono (fun a' w' h' => ⟨fun y hy hw => h'.1 y (List.mem_cons_of_mem _ hy) hw, wpT_weak f _ a' w' h'.2⟩) ((h.2 i hi).2 ht)⟩⟩

theorem Yd.put {o : Oper} {v : Value} {a : Act} {w : World} (hs : ∀ cs b, o.op ≠ .select cs b) (d : Option Tmp) (u : Value) (h : ∀ t, d = some t → t ∉ o.looksAt ops) : Yd P ops o v (a.put d u) w ↔ Yd P ops o v a w := by
  unfold Yd
  rw [wanted_put o a d u h, execOp_put o hs a d u h]

theorem Closed.set {L : Array Bool} (hc : Closed ops L) {i : Nat} (hi : i ∈ Region.ready .any ops L) : Closed ops (L.setIfInBounds i true) := by
  obtain ⟨hu, oi, hoi, hall⟩ := mem_ready.1 hi
  intro j o hj hl x hx hb
  by_cases hij : i = j
  · subst hij
    have : o = oi := Option.some.inj (hj.symm.trans hoi)
    subst this
    exact getD_set_true (hall x hx hb)
  · rw [getD_set_ne false hij] at hl
    exact getD_set_true (hc j o hj hl x hx hb)

/-- Nothing that is still to come, and does not wait for the i-th, looks at its slot, or writes it, or writes what it looks at. -/
def FreeT (ops : Array Oper) (W : List Nat) (L : Array Bool) (i : Nat) (oi : Oper) : Prop :=
  ∀ (j : Nat) (o : Oper), ops[j]? = some o → j ≠ i → L.getD j true = false → wt W j i = false →
    (∀ t, oi.dst = some t → t ∉ o.looksAt ops) ∧ (∀ t, oi.dst = some t → o.dst ≠ some t) ∧ (∀ t, o.dst = some t → t ∉ oi.looksAt ops)
theorem FreeT.set {L : Array Bool} {i j : Nat} {oi : Oper} (h : FreeT ops W L i oi) (hjun : L.getD j true = false) : FreeT ops W (L.setIfInBounds j true) i oi := fun k o hk hki hun hno => by
  refine h k o hk hki ?_ hno
  by_cases hjk : j = k
  · subst hjk; exact hjun
  · rw [getD_set_ne true hjk] at hun; exact hun

theorem wpT_first (hW : waitsOk ops W = true) {tk : List Nat} {ps : List (Nat × Oper × Value)} {i : Nat} {oi : Oper} {v : Value} (hi : ops[i]? = some oi) (htk : i ∈ tk) (hQ : ∀ c a w, ¬ Q (.panic c) a w)
    (hsel : ∀ (j : Nat) (o : Oper), ops[j]? = some o → (∀ cs b, o.op ≠ .select cs b) ∧ ∀ c, o.op ≠ .defer c)
    (hself : ∀ t, oi.dst = some t → t ∉ oi.looksAt ops) (hps : ∀ x ∈ ps, (∀ cs b, x.2.1.op ≠ .select cs b) ∧ ∀ t, oi.dst = some t → t ∉ x.2.1.looksAt ops) :
    ∀ (f : Nat) (L : Array Bool) (a : Act) (w : World), Closed ops L → FreeT ops W L i oi → i ∈ Region.ready .any ops L → Yd P ops oi v a w → wpT r P ops W Q tk ((i, oi, v) :: ps) f (L.setIfInBounds i true) (a.put oi.dst v) w → wpT r P ops W Q tk ps (f + 1) L a w := by
  have hisz := (Array.getElem?_eq_some_iff.1 hi).1
  intro f
  induction f with
  | zero =>
    intro L a w hc hfree hr hy H
    refine ⟨fun h => (by rw [h] at hr; cases hr), fun j hj => ?_⟩
    have hji : j = i := by
      by_cases e : j = i
      · exact e
      · have := ready_mono hj e
        rw [H.1] at this; cases this
    subst hji
    exact ⟨fun _ => ⟨oi, v, hi, hy, H⟩, fun h => absurd htk h⟩
  | succ f ih =>
    intro L a w hc hfree hr hy H
    refine ⟨fun h => (by rw [h] at hr; cases hr), fun j hj => ?_⟩
    by_cases hji : j = i
    · subst hji
      exact ⟨fun _ => ⟨oi, v, hi, hy, wpT_weak _ _ _ _ H⟩, fun h => absurd htk h⟩
    · have hjr := ready_mono hj hji
      obtain ⟨hjun, oj, hoj, hall⟩ := mem_ready.1 hj
      have hiun := getD_both (mem_ready.1 hr).1
      have hw : wt W j i = false := by
        cases h : wt W j i with
        | false => rfl
        | true => have := wt_closed hW hc hisz j oj hoj hall h; rw [hiun] at this; cases this
      obtain ⟨p1, p2, p3⟩ := hfree j oj hoj hji hjun hw
      have h1 := H.2 j hjr
      have next : ∀ (a' : Act) (w' : World), Yd P ops oi v a' w' → wpT r P ops W Q tk ((i, oi, v) :: ps) f ((L.setIfInBounds i true).setIfInBounds j true) (a'.put oi.dst v) w' → wpT r P ops W Q tk ps (f + 1) (L.setIfInBounds j true) a' w' := fun a' w' hy' h' =>
        ih (L.setIfInBounds j true) a' w' (hc.set hj) (hfree.set hjun) (ready_mono hr (Ne.symm hji)) hy' (by rw [Array.setIfInBounds_comm _ _ hji]; exact h')
      refine ⟨fun ht => ?_, fun ht => ?_⟩
      · obtain ⟨o, u, ho, hyj, h2⟩ := h1.1 ht
        have : o = oj := Option.some.inj (ho.symm.trans hoj)
        subst this
        refine ⟨o, u, hoj, (Yd.put (hsel j o hoj).1 oi.dst v p1).1 hyj, next _ _ ((Yd.put (hsel i oi hi).1 o.dst u p3).2 hy) ?_⟩
        rw [← Act.put_comm a v u p2]; exact h2
      · have h2 := op_late hoj hQ (hsel j oj hoj).1 (hsel j oj hoj).2 p1 p2 (h1.2 ht)
        refine wpOpIn_mono (fun a' w' h3 => ⟨fun x hx hw' => (Yd.put (hps x hx).1 oi.dst v (hps x hx).2).1 (h3.1 x (List.mem_cons_of_mem _ hx) hw'), next a' w' ?_ h3.2⟩) h2
        exact (Yd.put (hsel i oi hi).1 oi.dst v hself).1 (h3.1 (i, oi, v) List.mem_cons_self hw)

/-- An operation that looks at no memory. -/
theorem wpT_pure (hW : waitsOk ops W = true) {tk : List Nat} {ps : List (Nat × Oper × Value)} {i : Nat} {oi : Oper} {v : Value} (hi : ops[i]? = some oi) (htk : i ∈ tk) (hQ : ∀ c a w, ¬ Q (.panic c) a w)
    (hsel : ∀ (j : Nat) (o : Oper), ops[j]? = some o → (∀ cs b, o.op ≠ .select cs b) ∧ ∀ c, o.op ≠ .defer c)
    (hps : ∀ x ∈ ps, (∀ cs b, x.2.1.op ≠ .select cs b) ∧ ∀ t, oi.dst = some t → t ∉ x.2.1.looksAt ops) :
    ∀ (f : Nat) (L : Array Bool) (a : Act) (w : World), Closed ops L → FreeT ops W L i oi → i ∈ Region.ready .any ops L → (∀ w, Yd P ops oi v a w) → wpT r P ops W Q tk ps f (L.setIfInBounds i true) (a.put oi.dst v) w → wpT r P ops W Q tk ps (f + 1) L a w := by
  have hisz := (Array.getElem?_eq_some_iff.1 hi).1
  intro f
  induction f with
  | zero =>
    intro L a w hc hfree hr hy H
    refine ⟨fun h => (by rw [h] at hr; cases hr), fun j hj => ?_⟩
    have hji : j = i := by
      by_cases e : j = i
      · exact e
      · have := ready_mono hj e
        rw [H.1] at this; cases this
    subst hji
    exact ⟨fun _ => ⟨oi, v, hi, hy w, H⟩, fun h => absurd htk h⟩
  | succ f ih =>
    intro L a w hc hfree hr hy H
    refine ⟨fun h => (by rw [h] at hr; cases hr), fun j hj => ?_⟩
    by_cases hji : j = i
    · subst hji
      exact ⟨fun _ => ⟨oi, v, hi, hy w, H⟩, fun h => absurd htk h⟩
    · have hjr := ready_mono hj hji
      obtain ⟨hjun, oj, hoj, hall⟩ := mem_ready.1 hj
      have hiun := getD_both (mem_ready.1 hr).1
      have hw : wt W j i = false := by
        cases h : wt W j i with
        | false => rfl
        | true => have := wt_closed hW hc hisz j oj hoj hall h; rw [hiun] at this; cases this
      obtain ⟨p1, p2, p3⟩ := hfree j oj hoj hji hjun hw
      have h1 := H.2 j hjr
      have next : ∀ (a' : Act) (w' : World), (∀ w', Yd P ops oi v a' w') → wpT r P ops W Q tk ps f ((L.setIfInBounds i true).setIfInBounds j true) (a'.put oi.dst v) w' → wpT r P ops W Q tk ps (f + 1) (L.setIfInBounds j true) a' w' := fun a' w' hy' h' =>
        ih (L.setIfInBounds j true) a' w' (hc.set hj) (hfree.set hjun) (ready_mono hr (Ne.symm hji)) hy' (by rw [Array.setIfInBounds_comm _ _ hji]; exact h')
      refine ⟨fun ht => ?_, fun ht => ?_⟩
      · obtain ⟨o, u, ho, hyj, h2⟩ := h1.1 ht
        have : o = oj := Option.some.inj (ho.symm.trans hoj)
        subst this
        refine ⟨o, u, hoj, (Yd.put (hsel j o hoj).1 oi.dst v p1).1 hyj, next _ _ (fun w' => (Yd.put (hsel i oi hi).1 o.dst u p3).2 (hy w')) ?_⟩
        rw [← Act.put_comm a v u p2]; exact h2
      · have h2 := op_frame hoj hQ (op_late hoj hQ (hsel j oj hoj).1 (hsel j oj hoj).2 p1 p2 (h1.2 ht))
        refine wpOpIn_mono (fun a' w' h3 => ?_) h2
        obtain ⟨⟨u, ds, rfl⟩, h3, h4⟩ := h3
        refine ⟨fun x hx hw' => (Yd.put (hps x hx).1 oi.dst v (hps x hx).2).1 (h3 x hx hw'), next _ w' (fun w' => ?_) h4⟩
        exact (Yd.put (hsel i oi hi).1 oj.dst u p3).2 (hy w')

theorem wpT_any (hsel : ∀ (j : Nat) (o : Oper), ops[j]? = some o → (∀ cs b, o.op ≠ .select cs b) ∧ ∀ c, o.op ≠ .defer c) {tk : List Nat} {ps : List (Nat × Oper × Value)} :
    ∀ (f : Nat) (L : Array Bool) (a : Act) (w : World), wpT r P ops W Q tk ps f L a w → wpAnyIn (FR r) 0 P .any ops Q f L a w
  | 0, L, a, w, h => h
  | f + 1, L, a, w, h => ⟨h.1, fun i hi => by
      by_cases ht : i ∈ tk
      · obtain ⟨o, v, ho, hy, h2⟩ := (h.2 i hi).1 ht
        exact hy.op ho (hsel i o ho).2 (wpT_any hsel f _ _ _ h2)
      · exact wpOpIn_mono (fun a' w' h' => wpT_any hsel f _ _ _ h'.2) ((h.2 i hi).2 ht)⟩

/-! ### Plans -/
/-- How a region's orders are gone through: 'eag i p': the i-th operation, which looks at no memory, goes first; 'eagq i p': a quiet one goes first, and is pending from then on; 'alt j cs p q': the j-th goes now, then the pending ones 'cs' are looked at again, then 'p'; or another one, by 'q'. -/
inductive Plan where
  | fin
  | stop
  | eag (i : Nat) (p : Plan)
  | eagq (i : Nat) (p : Plan)
  | alt (i : Nat) (cs : List Nat) (p q : Plan)

def Plan.len : Plan → Nat
  | .fin => 0
  | .stop => 0
  | .eag _ p => p.len + 1
  | .eagq _ p => p.len + 1
  | .alt _ _ p q => max (p.len + 1) q.len

def freeB (ops : Array Oper) (W : List Nat) (L : Array Bool) (i : Nat) (oi : Oper) : Bool := (List.range ops.size).all fun j => decide (j = i) || L.getD j true || wt W j i ||
  (match ops[j]? with
   | some o => (match oi.dst with | some t => !(o.looksAt ops).contains t && o.dst != some t | none => true) && (match o.dst with | some t => !(oi.looksAt ops).contains t | none => true)
   | none => true)
/-- None of the pending ones looks at this slot. -/
def unseen (ops : Array Oper) (ps : List Nat) (d : Option Tmp) : Bool := ps.all fun c => match ops[c]?, d with | some o, some t => !(o.looksAt ops).contains t | _, _ => true
def takeB (ops : Array Oper) (W : List Nat) (tk : List Nat) (L : Array Bool) (ps : List Nat) (i : Nat) (k : Oper → Bool) : Bool :=
  match ops[i]? with
  | some o => k o && freeB ops W L i o && unseen ops ps o.dst && tk.contains i && (Region.ready .any ops L).contains i
  | none => false
def planB (ops : Array Oper) (W : List Nat) (tk : List Nat) : Plan → Array Bool → List Nat → Option (List Nat) → Bool
  | .fin, L, _, none => (Region.ready .any ops L).isEmpty
  | .eag i p, L, ps, none => takeB ops W tk L ps i (fun o => pureB o.op) && planB ops W tk p (L.setIfInBounds i true) ps none
  | .eagq i p, L, ps, none => takeB ops W tk L ps i (fun o => isQ o.op && (match o.dst with | some t => !(o.looksAt ops).contains t | none => false)) && planB ops W tk p (L.setIfInBounds i true) (i :: ps) none
  | .alt j cs p q, L, ps, none => (Region.ready .any ops L).contains j && (Region.ready .any ops L).all (fun i => !tk.contains i) && ps.all (fun c => wt W j c || cs.contains c) && planB ops W tk p (L.setIfInBounds j true) ps none && planB ops W tk q L ps (some [j])
  | .alt j cs p q, L, ps, some A => ps.all (fun c => wt W j c || cs.contains c) && planB ops W tk p (L.setIfInBounds j true) ps none && planB ops W tk q L ps (some (j :: A))
  | .stop, L, _, some A => (Region.ready .any ops L).all (A.contains ·)
  | _, _, _, _ => false
def planOk (ops : Array Oper) (W tk : List Nat) (p : Plan) : Bool := waitsOk ops W && decide (p.len ≤ ops.size) && planB ops W tk p (Array.replicate ops.size false) [] none

/-- The frame has in a slot what it had. -/
def sameAt (s : Option Tmp) (e e' : Fr) : Prop := match s with | some t => e'.v t = e.v t | none => False
section
variable (P : Program) (B : World)
/-- The c-th operation, done again, yields what it did. -/
def chkS (ops : Array Oper) (c : Nat) (e : Fr) (σ : St) : Prop := atS P B c ops ops.toList (fun e' _ => sameAt ((ops[c]?).bind (·.dst)) e e') e σ
def chks (ops : Array Oper) : List Nat → Fr → St → Prop
  | [], _, _ => True
  | c :: cs, e, σ => chkS P B ops c e σ ∧ chks ops cs e σ
/-- A step of a plan: the pending ones are looked at, then it goes on. -/
def stepP (ops : Array Oper) (cs : List Nat) (K : Fr → St → Prop) (e : Fr) (σ : St) : Prop := chks P B ops cs e σ ∧ K e σ
def runP (ops : Array Oper) : Plan → (Fr → St → Prop) → Fr → St → Prop
  | .fin, K, e, σ => K e σ
  | .stop, _, _, _ => True
  | .eag i p, K, e, σ => atS P B i ops ops.toList (runP ops p K) e σ
  | .eagq i p, K, e, σ => atS P B i ops ops.toList (runP ops p K) e σ
  | .alt j cs p q, K, e, σ => atS P B j ops ops.toList (stepP P B ops cs (runP ops p K)) e σ ∧ runP ops q K e σ
end

theorem chks_mem {e : Fr} {σ : St} : ∀ {cs : List Nat} {c : Nat}, chks P B ops cs e σ → c ∈ cs → chkS P B ops c e σ
  | c' :: cs, c, h, hc => by
    rcases List.mem_cons.1 hc with rfl | hc
    · exact h.1
    · exact chks_mem h.2 hc

theorem freeB_spec {L : Array Bool} {i : Nat} {oi : Oper} (h : freeB ops W L i oi = true) : FreeT ops W L i oi := by
  intro j o hj hji hun hw
  have hjs := (Array.getElem?_eq_some_iff.1 hj).1
  have h1 := List.all_eq_true.1 h j (List.mem_range.2 hjs)
  simp only [hji, decide_false, Bool.false_or, hun, hw, hj, Bool.and_eq_true] at h1
  obtain ⟨h2, h3⟩ := h1
  refine ⟨fun t ht hm => ?_, fun t ht he => ?_, fun t ht hm => ?_⟩
  · rw [ht] at h2
    simp only [Bool.and_eq_true, Bool.not_eq_true'] at h2
    rw [List.contains_eq_mem] at h2
    simp [hm] at h2
  · rw [ht] at h2
    simp only [Bool.and_eq_true] at h2
    have := h2.2
    simp [he] at this
  · rw [ht] at h3
    simp only [Bool.not_eq_true'] at h3
    rw [List.contains_eq_mem] at h3
    simp [hm] at h3

/-- What is known of the pending ones. -/
structure PsOk (ops : Array Oper) (L : Array Bool) (e : Fr) (ps : List (Nat × Oper × Value)) : Prop where
  at_ : ∀ x ∈ ps, ops[x.1]? = some x.2.1 ∧ isQ x.2.1.op = true ∧ L.getD x.1 true = true ∧ ∃ t, x.2.1.dst = some t ∧ e.v t = x.2.2

theorem Is.tm {a : Act} {n : Nat} {e : Fr} (h : Is a n e) (t : Nat) : e.v t = a.tmps.getD t undef := (h.v t).symm

theorem plan_any {n : Nat} (D : Dok ops) (hW : waitsOk ops W = true) {tk : List Nat} (hQ : ∀ c a w, ¬ Q (.panic c) a w) {K : Fr → St → Prop}
    (hdst : ∀ (i : Nat) (o : Oper), ops[i]? = some o → ∀ t, o.dst = some t → t < n) (hn : ∀ a' e' σ' w', Is a' n e' → Rel B w' σ' → K e' σ' → Q .normal a' w') :
    ∀ (p : Plan) (L : Array Bool) (ps : List (Nat × Oper × Value)) (e : Fr) (σ : St) (a : Act) (w : World) (f : Nat), Is a n e → Rel B w σ → Closed ops L → L.size = ops.size → PsOk ops L e ps → runP P B ops p K e σ →
      (planB ops W tk p L (ps.map (·.1)) none = true → p.len ≤ f → wpT r P ops W Q tk ps f L a w) ∧
      (∀ A, planB ops W tk p L (ps.map (·.1)) (some A) = true → p.len ≤ f + 1 → ∀ i ∈ Region.ready .any ops L, i ∉ A →
        wpOpIn (FR r) 0 P ops Q i (fun a' w' => Pend P ops W ps i a' w' ∧ wpT r P ops W Q tk ps f (L.setIfInBounds i true) a' w') a w) := by
  have hsel := D.plain
  intro p
  have one : ∀ (i : Nat) (X : Fr → St → Prop) (next : Act → World → Prop) (e : Fr) (σ : St) (a : Act) (w : World), Is a n e → Rel B w σ → atS P B i ops ops.toList X e σ →
      (∀ o a' e' σ' w', ops[i]? = some o → Is a' n e' → (∀ t, o.dst ≠ some t → e'.v t = e.v t) → Rel B w' σ' → X e' σ' → next a' w') → wpOpIn (FR r) 0 P ops Q i next a w := by
    intro i X next e σ a w ha hw h hnext
    obtain ⟨o, ho, hb⟩ := atS_spec _ _ h
    have ho' : ops[i]? = some o := by simpa using ho
    have key : wpOpIn (FR r) 0 P ops Q i (fun a' w' => ∃ e' σ', Is a' n e' ∧ Rel B w' σ' ∧ X e' σ') a w := by
      unfold wpOpIn
      simp only [ho', wanted_gd ha]
      cases hg : gd ops o e with
      | true =>
        simp only [if_true]
        exact opS_wp (.inr (D.plain i o ho').2) (hdst i o ho') ha hw (hb.1 hg) fun a' e' σ' w' h1 h2 h3 => ⟨e', σ', h1, h2, h3⟩
      | false =>
        simp only [Bool.false_eq_true, if_false]
        exact ⟨fun _ _ => trivial, _, _, ha.put _ _ (hdst i o ho'), hw, hb.2 hg⟩
    refine wpOpIn_mono (fun a' w' h' => ?_) (op_frame ho' hQ key)
    obtain ⟨⟨u, ds, rfl⟩, e', σ', h1, h2, h3⟩ := h'
    refine hnext o _ e' σ' w' ho' h1 (fun t ht => ?_) h2 h3
    rw [h1.tm, ha.tm]
    show (a.put o.dst u).tmps.getD t undef = _
    cases hd : o.dst with
    | none => rfl
    | some s =>
      have hst : s ≠ t := fun e' => ht (by rw [hd, e'])
      simp only [Act.put, Array.getD_eq_getD_getElem?]
      rw [Array.getElem?_setIfInBounds_ne hst]
  induction p with
  | fin =>
    intro L ps e σ a w f ha hw hc hL hp h
    refine ⟨fun hpl _ => ?_, fun A hpl => by simp [planB] at hpl⟩
    have hr : Region.ready .any ops L = [] := by simpa [planB] using hpl
    cases f with
    | zero => exact ⟨hr, hn _ _ _ _ ha hw h⟩
    | succ f => exact ⟨fun _ => hn _ _ _ _ ha hw h, fun i hi => by rw [hr] at hi; cases hi⟩
  | stop =>
    intro L ps e σ a w f ha hw hc hL hp h
    refine ⟨fun hp => by simp [planB] at hp, fun A hp _ i hi hA => ?_⟩
    simp only [planB, List.all_eq_true, List.contains_eq_mem, decide_eq_true_eq] at hp
    exact absurd (hp i hi) hA
  | eag i p ih =>
    intro L ps e σ a w f ha hw hc hL hps h
    refine ⟨fun hp hl => ?_, fun A hp => by simp [planB] at hp⟩
    obtain ⟨o, ho, hb⟩ := atS_spec _ _ h
    have ho' : ops[i]? = some o := by simpa using ho
    simp only [planB, takeB, ho', Bool.and_eq_true] at hp
    obtain ⟨⟨⟨⟨⟨hpure, hfree⟩, hun⟩, htk⟩, hr⟩, hp⟩ := hp
    cases f with
    | zero => simp [Plan.len] at hl
    | succ f =>
      have hl' : p.len ≤ f := by simp only [Plan.len] at hl; omega
      have key : ∃ v, (∀ w, Yd P ops o v a w) ∧ runP P B ops p K (e.put o.dst v) σ := by
        cases hg : gd ops o e with
        | true =>
          have h1 := hb.1 hg
          unfold opS at h1
          rw [pure_q hpure] at h1
          obtain ⟨v, hv, hx⟩ := h1
          exact ⟨v, fun w => .inl ⟨by rw [wanted_gd ha]; exact hg, by rw [ha.eval]; exact pure_run hpure hv o rfl w⟩, hx⟩
        | false => exact ⟨undef, fun w => .inr ⟨by rw [wanted_gd ha]; exact hg, rfl⟩, hb.2 hg⟩
      obtain ⟨v, hy, hx⟩ := key
      have hr' : i ∈ Region.ready .any ops L := by simpa using hr
      have hps' : ∀ x ∈ ps, (∀ cs b, x.2.1.op ≠ .select cs b) ∧ ∀ t, o.dst = some t → t ∉ x.2.1.looksAt ops := fun x hx => by
        obtain ⟨h1, _⟩ := hps.at_ x hx
        refine ⟨(hsel _ _ h1).1, fun t ht hm => ?_⟩
        have := List.all_eq_true.1 hun x.1 (List.mem_map.2 ⟨x, hx, rfl⟩)
        simp only [h1, ht, Bool.not_eq_true'] at this
        rw [List.contains_eq_mem] at this
        simp [hm] at this
      have hun' := (mem_ready.1 hr').1
      refine wpT_pure hW ho' (by simpa using htk) hQ hsel hps' f L a w hc (freeB_spec hfree) hr' hy ?_
      refine (ih _ _ _ _ _ _ f (ha.put _ _ (hdst i o ho')) hw (hc.set hr') (by simp [hL]) ⟨fun x hx => ?_⟩ hx).1 hp hl'
      obtain ⟨h1, h2, h3, t, h4, h5⟩ := hps.at_ x hx
      have hxi : x.1 ≠ i := fun e1 => by rw [e1, hun'] at h3; cases h3
      refine ⟨h1, h2, by rw [getD_set_ne true (Ne.symm hxi)]; exact h3, t, h4, ?_⟩
      cases hd : o.dst with
      | none => exact h5
      | some s =>
        have : t ≠ s := fun e1 => hxi (D.once _ _ _ _ t ho' h1 h4 (by rw [hd, e1]))
        rw [put_ne _ _ this]; exact h5
  | eagq i p ih =>
    intro L ps e σ a w f ha hw hc hL hps h
    refine ⟨fun hp hl => ?_, fun A hp => by simp [planB] at hp⟩
    obtain ⟨o, ho, hb⟩ := atS_spec _ _ h
    have ho' : ops[i]? = some o := by simpa using ho
    simp only [planB, takeB, ho', Bool.and_eq_true] at hp
    obtain ⟨⟨⟨⟨⟨⟨hq, hself⟩, hfree⟩, hun⟩, htk⟩, hr⟩, hp⟩ := hp
    cases f with
    | zero => simp [Plan.len] at hl
    | succ f =>
      have hl' : p.len ≤ f := by simp only [Plan.len] at hl; omega
      have key : ∃ v, Yd P ops o v a w ∧ runP P B ops p K (e.put o.dst v) σ := by
        cases hg : gd ops o e with
        | true =>
          have h1 := hb.1 hg
          unfold opS at h1
          rw [hq] at h1
          obtain ⟨v, hv, hx⟩ := h1
          exact ⟨v, .inl ⟨by rw [wanted_gd ha]; exact hg, by rw [ha.eval]; exact run_qv hw hv o rfl⟩, hx⟩
        | false => exact ⟨undef, .inr ⟨by rw [wanted_gd ha]; exact hg, rfl⟩, hb.2 hg⟩
      obtain ⟨v, hy, hx⟩ := key
      have hr' : i ∈ Region.ready .any ops L := by simpa using hr
      have hps' : ∀ x ∈ ps, (∀ cs b, x.2.1.op ≠ .select cs b) ∧ ∀ t, o.dst = some t → t ∉ x.2.1.looksAt ops := fun x hx => by
        obtain ⟨h1, _⟩ := hps.at_ x hx
        refine ⟨(hsel _ _ h1).1, fun t ht hm => ?_⟩
        have := List.all_eq_true.1 hun x.1 (List.mem_map.2 ⟨x, hx, rfl⟩)
        simp only [h1, ht, Bool.not_eq_true'] at this
        rw [List.contains_eq_mem] at this
        simp [hm] at this
      have hun' := (mem_ready.1 hr').1
      obtain ⟨s, hd⟩ : ∃ s, o.dst = some s := by
        cases hd : o.dst with
        | none => rw [hd] at hself; cases hself
        | some s => exact ⟨s, rfl⟩
      have hself' : ∀ t, o.dst = some t → t ∉ o.looksAt ops := fun t ht hm => by
        rw [ht] at hself
        simp only [Bool.not_eq_true'] at hself
        rw [List.contains_eq_mem] at hself
        simp [hm] at hself
      refine wpT_first hW ho' (by simpa using htk) hQ hsel hself' hps' f L a w hc (freeB_spec hfree) hr' hy ?_
      refine (ih _ ((i, o, v) :: ps) _ _ _ _ f (ha.put _ _ (hdst i o ho')) hw (hc.set hr') (by simp [hL]) ⟨fun x hx => ?_⟩ hx).1 (by simpa using hp) hl'
      have his : i < L.size := by rw [hL]; exact (Array.getElem?_eq_some_iff.1 ho').1
      rcases List.mem_cons.1 hx with rfl | hx
      · exact ⟨ho', hq, by simp [his], s, hd, by rw [hd, put_same]⟩
      · obtain ⟨h1, h2, h3, t, h4, h5⟩ := hps.at_ x hx
        have hxi : x.1 ≠ i := fun e1 => by rw [e1, hun'] at h3; cases h3
        refine ⟨h1, h2, by rw [getD_set_ne true (Ne.symm hxi)]; exact h3, t, h4, ?_⟩
        have : t ≠ s := fun e1 => hxi (D.once _ _ _ _ t ho' h1 h4 (by rw [hd, e1]))
        rw [hd, put_ne _ _ this]; exact h5
  | alt i cs p q ihp ihq =>
    intro L ps e σ a w f ha hw hc hL hps h
    obtain ⟨h1, h2⟩ := h
    have go : ∀ f, i ∈ Region.ready .any ops L → (ps.map (·.1)).all (fun c => wt W i c || cs.contains c) = true → planB ops W tk p (L.setIfInBounds i true) (ps.map (·.1)) none = true → p.len ≤ f →
        wpOpIn (FR r) 0 P ops Q i (fun a' w' => Pend P ops W ps i a' w' ∧ wpT r P ops W Q tk ps f (L.setIfInBounds i true) a' w') a w := fun f hr hcs hp hl => by
      have hun' := (mem_ready.1 hr).1
      refine one i _ _ e σ a w ha hw h1 fun o a' e' σ' w' ho ha' hfr hw' hx => ?_
      have hps' : PsOk ops (L.setIfInBounds i true) e' ps := ⟨fun x hx' => by
        obtain ⟨h1, h2, h3, t, h4, h5⟩ := hps.at_ x hx'
        have hxi : x.1 ≠ i := fun e1 => by rw [e1, hun'] at h3; cases h3
        refine ⟨h1, h2, by rw [getD_set_ne true (Ne.symm hxi)]; exact h3, t, h4, ?_⟩
        rw [hfr t fun hd => hxi (D.once _ _ _ _ t ho h1 h4 hd)]; exact h5⟩
      refine ⟨fun x hxp hwx => ?_, (ihp _ _ _ _ _ _ f ha' hw' (hc.set hr) (by simp [hL]) hps' hx.2).1 hp hl⟩
      have hm := List.all_eq_true.1 hcs x.1 (List.mem_map.2 ⟨x, hxp, rfl⟩)
      simp only [hwx, Bool.false_or, List.contains_eq_mem, decide_eq_true_eq] at hm
      have hck := chks_mem hx.1 hm
      obtain ⟨h1, h2, h3, t, h4, h5⟩ := hps'.at_ x hxp
      unfold chkS at hck
      obtain ⟨oc, hoc, hbc⟩ := atS_spec _ _ hck
      have : oc = x.2.1 := by simpa [h1] using hoc.symm
      subst this
      cases hg : gd ops x.2.1 e' with
      | true =>
        have h6 := hbc.1 hg
        unfold opS at h6
        rw [h2] at h6
        obtain ⟨v', hv', hs⟩ := h6
        simp only [h1, Option.bind_some, h4, sameAt, put_same] at hs
        refine .inl ⟨by rw [wanted_gd ha']; exact hg, ?_⟩
        rw [ha'.eval, ← h5, ← hs]
        exact run_qv hw' hv' _ rfl
      | false =>
        have h6 := hbc.2 hg
        simp only [skipK, h1, Option.bind_some, h4, sameAt, put_same] at h6
        exact .inr ⟨by rw [wanted_gd ha']; exact hg, by rw [← h5, ← h6]⟩
    refine ⟨fun hp hl => ?_, fun A hp hl j hj hA => ?_⟩
    · simp only [planB, Bool.and_eq_true] at hp
      obtain ⟨⟨⟨⟨hr, htk⟩, hcs⟩, hp⟩, hq⟩ := hp
      cases f with
      | zero => simp only [Plan.len] at hl; omega
      | succ f =>
        simp only [Plan.len] at hl
        have hr' : i ∈ Region.ready .any ops L := by simpa using hr
        refine ⟨fun h0 => (by rw [h0] at hr'; cases hr'), fun j hj => ⟨fun ht => ?_, fun ht => ?_⟩⟩
        · have := List.all_eq_true.1 htk j hj
          simp only [Bool.not_eq_true'] at this
          rw [List.contains_eq_mem] at this
          simp [ht] at this
        · by_cases hji : j = i
          · subst hji; exact go f hr' hcs hp (by omega)
          · exact (ihq L ps e σ a w f ha hw hc hL hps h2).2 [i] hq (by omega) j hj (by simpa using hji)
    · simp only [planB, Bool.and_eq_true] at hp
      obtain ⟨⟨hcs, hp⟩, hq⟩ := hp
      simp only [Plan.len] at hl
      by_cases hji : j = i
      · subst hji; exact go f hj hcs hp (by omega)
      · exact (ihq L ps e σ a w f ha hw hc hL hps h2).2 (i :: A) hq (by omega) j hj (by simp [hji, hA])

/-- **A REGION BY A PLAN.** -/
theorem AnyS.of_plan {K : Fr → St → Prop} {e : Fr} {σ : St} (W tk : List Nat) (p : Plan) (hp : planOk ops W tk p = true) (h : runP P B ops p K e σ) : AnyS P B ops K e σ := by
  intro r n id Q a w hm hD hdst ha hw hn
  simp only [planOk, Bool.and_eq_true, decide_eq_true_eq] at hp
  obtain ⟨⟨h1, h2⟩, h3⟩ := hp
  have D := dok_spec hD
  refine wpIn_mono (Q := fun x a w => x = .normal ∧ Q .normal a w) (wpIn_region_any hm ?_) ?_
  · refine wpT_any (tk := tk) (ps := []) (W := W) D.plain _ _ _ _ ?_
    refine (plan_any D h1 (fun c a w h => by cases h.1) hdst (fun a' e' σ' w' ha' hw' hk => ⟨rfl, hn a' e' σ' w' ha' hw' hk⟩) p _ [] e σ a _ ops.size ha (hw.drawn _) ?_ (by simp) ⟨fun x hx => by cases hx⟩ h).1 (by simpa using h3) h2
    intro j o hj hl x hx hb
    rw [getD_replicate_false] at hl; cases hl
  · rintro x a w ⟨rfl, h⟩; exact h
end

section
variable {P : Program} {B : World} {σ : St} {e e' e0 : Fr} {K : Fr → St → Prop} {X : DC → Fr → St → Prop} {c0 : Bool}
theorem effD_plan {ops : Array Oper} {i : Nat} {o : Oper} {rest : List Oper} (W tk : List Nat) (p : Plan) (hp : planOk ops W tk p = true) (h : runP P B ops p K e0 σ) : effD P B ops i o rest K X ⟨c0, true, e0⟩ e σ := effD_any (.of_plan W tk p hp h)
@[go_sem] theorem runP_fin {ops : Array Oper} : runP P B ops .fin K e σ = K e σ := rfl
@[go_sem] theorem runP_stop {ops : Array Oper} : runP P B ops .stop K e σ = True := rfl
@[go_sem ↓] theorem runP_eag {l : List Oper} {i : Nat} {p : Plan} : runP P B l.toArray (.eag i p) K e σ = atS P B i l.toArray l (runP P B l.toArray p K) e σ := rfl
@[go_sem ↓] theorem runP_eagq {l : List Oper} {i : Nat} {p : Plan} : runP P B l.toArray (.eagq i p) K e σ = atS P B i l.toArray l (runP P B l.toArray p K) e σ := rfl
@[go_sem ↓] theorem runP_one {l : List Oper} {i : Nat} {cs : List Nat} {p : Plan} : runP P B l.toArray (.alt i cs p .stop) K e σ = atS P B i l.toArray l (stepP P B l.toArray cs (runP P B l.toArray p K)) e σ := by
  simp [runP]
@[go_sem ↓ low] theorem runP_alt {l : List Oper} {i : Nat} {cs : List Nat} {p q : Plan} : runP P B l.toArray (.alt i cs p q) K e σ = (atS P B i l.toArray l (stepP P B l.toArray cs (runP P B l.toArray p K)) e σ ∧ runP P B l.toArray q K e σ) := rfl
@[go_sem ↓] theorem stepP_nil {ops : Array Oper} : stepP P B ops [] K e σ = K e σ := by simp [stepP, chks]
@[go_sem ↓ low] theorem stepP_cons {ops : Array Oper} {c : Nat} {cs : List Nat} : stepP P B ops (c :: cs) K e σ = (chkS P B ops c e σ ∧ stepP P B ops cs K e σ) := by
  simp [stepP, chks, and_assoc]
@[go_sem ↓] theorem chkS_eq {l : List Oper} {c : Nat} : chkS P B l.toArray c e σ = atS P B c l.toArray l (fun e' _ => sameAt (slotOf l c) e e') e σ := by
  simp only [chkS, slotOf_eq, List.getElem?_toArray]
@[go_sem] theorem sameAt_some {t : Tmp} : sameAt (some t) e e' = (e'.v t = e.v t) := rfl
end
end Go.Proofs.YtdbgeahmhfocaaaGreat

/- What came in: the data of an argument, by its reading; and a law's row, from the walk of its function. -/
namespace Go.Proofs.YtdbgeahmhfocaaaGreat
set_option linter.unusedSimpArgs false
set_option linter.unusedVariables false
open Go Go.RowKit Go.ChangeShapes Go.WideShapes Go.ChangeAt Go.Deep

section
variable {P : Program} {H : Type} {enc : TypeId × Value → H} {w : World}

/-- Cells of a type can be read. -/
def Rdb (enc : TypeId × Value → H) (P : Program) (w : World) (t : TypeId) (cs : List Value) : Prop := ∃ n x, DataW.trod enc P w 0 (fun _ => true) true n t cs = some x

theorem Rdb.int {t : TypeId} {k : IntKind} {cs : List Value} (ht : P.underlying t = some (.int k)) (h : Rdb enc P w t cs) : ∃ n, cs = [.int k n] ∧ (Lit.int k n).wf = true := by
  obtain ⟨n, x, h⟩ := h
  obtain ⟨m, h, _, hw⟩ := DataW.trod_int ht h
  exact ⟨m, h, hw⟩
theorem Rdb.bool {t : TypeId} {cs : List Value} (ht : P.underlying t = some .bool) (h : Rdb enc P w t cs) : ∃ b, cs = [.bool b] := by
  obtain ⟨n, x, h⟩ := h
  obtain ⟨m, h, _⟩ := DataW.trod_bool ht h
  exact ⟨m, h⟩
theorem Rdb.str {t : TypeId} {cs : List Value} (ht : P.underlying t = some .string) (h : Rdb enc P w t cs) : ∃ s : ByteArray, cs = [.string s] ∧ s.size ≤ maxLen := by
  obtain ⟨n, x, h⟩ := h
  obtain ⟨m, h, _, hw⟩ := DataW.trod_string ht h
  exact ⟨m, h, hw⟩
theorem Rdb.struct {t : TypeId} {fs : Array Field} {cs : List Value} (ht : P.underlying t = some (.struct fs)) (h : Rdb enc P w t cs) :
    cs.length = P.cellsOf t ∧ ∀ f ∈ fs.toList, Rdb enc P w f.type ((cs.drop f.offset).take (P.cellsOf f.type)) := by
  obtain ⟨n, x, h⟩ := h
  cases n with
  | zero => simp [DataW.trod] at h
  | succ n =>
    unfold DataW.trod at h
    rw [ht] at h
    simp only at h
    split at h <;> first | contradiction | skip
    rename_i hl
    refine ⟨hl, fun f hf => ?_⟩
    simp only [Option.map_eq_some_iff] at h
    obtain ⟨xs, hx, _⟩ := h
    obtain ⟨i, hi⟩ := List.getElem?_of_mem hf
    have hlen := mapM_some_length hx
    have hilt : i < fs.toList.length := (List.getElem?_eq_some_iff.1 hi).1
    have := mapM_some_get hx i f hi
    rw [List.getElem?_eq_getElem (by omega)] at this
    exact ⟨n, _, this⟩

theorem list_of {β : Type} {p : Nat → β → Prop} : ∀ n : Nat, (∀ i, i < n → ∃ v, p i v) → ∃ l : List β, l.length = n ∧ ∀ i v, l[i]? = some v → p i v
  | 0, _ => ⟨[], rfl, fun i v h => by simp at h⟩
  | n + 1, h => by
    obtain ⟨l, hl, hp⟩ := list_of n fun i hi => h i (by omega)
    obtain ⟨v, hv⟩ := h n (by omega)
    refine ⟨l ++ [v], by simp [hl], fun i x hx => ?_⟩
    by_cases hi : i < n
    · rw [List.getElem?_append_left (by omega)] at hx; exact hp i x hx
    · rw [List.getElem?_append_right (by omega)] at hx
      by_cases hin : i = n
      · subst hin; simp [hl] at hx; subst hx; exact hv
      · have : i - l.length ≠ 0 := by omega
        obtain ⟨k, hk⟩ := Nat.exists_eq_succ_of_ne_zero this
        rw [hk] at hx; simp at hx

/-- A slice of rows of so many cells each: what it holds. -/
def SlR (w : World) (sz : Nat) {α : Type} (R : α → List Value → Prop) (l : List α) (v : Value) : Prop :=
  ∃ a cap, v = .slice a l.length cap ∧ l.length ≤ cap ∧ cap ≤ maxLen ∧ (a = none → cap = 0) ∧
    ∀ i x, l[i]? = some x → ∃ b o cs, a = some ⟨b, o, none⟩ ∧ b < w.heap.size ∧ R x cs ∧ cs.length = sz ∧ ∀ j v, cs[j]? = some v → w.cell? ⟨b, o + i * sz + j, none⟩ = some v

theorem Rdb.slice {t e : TypeId} {cs : List Value} {α : Type} {R : α → List Value → Prop} (ht : P.underlying t = some (.slice e)) (hsz : 0 < P.cellsOf e) (hR : ∀ cs, Rdb enc P w e cs → ∃ x, R x cs) (h : Rdb enc P w t cs) :
    ∃ v l, cs = [v] ∧ SlR w (P.cellsOf e) R l v := by
  obtain ⟨n, x, h⟩ := h
  rcases open_slice ht h with ⟨rfl, _⟩ | ⟨a, len, cap, m, n', D, Pl, rfl, _, hl, hm, hmm, _, hx⟩
  · exact ⟨_, [], rfl, none, 0, rfl, Nat.le_refl _, Nat.zero_le _, fun _ => rfl, fun i x hi => by simp at hi⟩
  · have hlm : len ≤ m := by rw [hmm]; simp; omega
    obtain ⟨X, hXl, hX⟩ := list_of (β := α × List Value) (p := fun i v => w.cells? 0 (a.add (i * P.cellsOf e)) (P.cellsOf e) = some v.2 ∧ R v.1 v.2) len (fun i hi => by
      obtain ⟨cs', h1, h2⟩ := hx i (by omega)
      obtain ⟨y, hy⟩ := hR cs' ⟨_, _, h2⟩
      exact ⟨(y, cs'), h1, hy⟩)
    refine ⟨_, X.map (·.1), rfl, some a, cap, by simp [hXl], by simpa [hXl] using hl, hm, fun h => by (cases h), fun i x hi => ?_⟩
    rw [List.getElem?_map, Option.map_eq_some_iff] at hi
    obtain ⟨y, hy, rfl⟩ := hi
    have hi' : i < len := by rw [← hXl]; exact (List.getElem?_eq_some_iff.1 hy).1
    obtain ⟨h1, h2⟩ := hX i y hy
    obtain ⟨_, hlen, hc⟩ := World.cells?_some h1
    have hspot : a.spot = none := by
      obtain ⟨h1, _⟩ := hX 0 (X[0]'(by omega)) (List.getElem?_eq_getElem (by omega))
      obtain ⟨_, hlen, hc⟩ := World.cells?_some h1
      have h0 := hc 0 (by omega)
      simp only [Nat.zero_mul, Addr.add, if_true] at h0
      rw [List.getElem?_eq_getElem (by omega)] at h0
      unfold World.cell? at h0
      split at h0
      · split at h0
        · cases h0
        · rename_i hs; simpa using hs
      · cases h0
    obtain ⟨b, o, s⟩ := a
    simp only at hspot
    subst hspot
    have key : ∀ j v, y.2[j]? = some v → w.cell? ⟨b, o + i * P.cellsOf e + j, none⟩ = some v := fun j v hj => by
      have hjl : j < P.cellsOf e := by rw [← hlen]; exact (List.getElem?_eq_some_iff.1 hj).1
      have := hc j hjl
      rw [add_none (a := ⟨b, o, none⟩) rfl, add_none (a := ⟨b, o + i * P.cellsOf e, none⟩) rfl] at this
      rw [← hj]; exact this
    refine ⟨b, o, y.2, rfl, ?_, h2, hlen, key⟩
    have h0 := key 0 y.2[0] (List.getElem?_eq_getElem (by omega))
    unfold World.cell? at h0
    split at h0
    · rename_i hh; exact (Array.getElem?_eq_some_iff.1 hh).1
    · cases h0

theorem Trod.rdb {t : TypeId} {v : Value} {d : DataW H} {ps : List MemPlace} (h : DataW.Trod enc P w 0 (fun _ => true) true t v d ps) : Rdb enc P w t v.cells.toList :=
  let ⟨n, h⟩ := h; ⟨n, _, h⟩

theorem arg_int {r : Reach} {b0 : Nat} {t : TypeId} {k : IntKind} {v : Value} (ht : P.underlying t = some (.int k)) (ho : Value.okWide P w r b0 t v) (h : Rdb enc P w t v.cells.toList) : ∃ n, v = .int k n ∧ (Lit.int k n).wf = true := by
  obtain ⟨n, rfl⟩ := okWide_int ht ho
  obtain ⟨m, h1, h2⟩ := h.int ht
  simp [Value.cells] at h1
  subst h1
  exact ⟨n, rfl, h2⟩
theorem arg_str {r : Reach} {b0 : Nat} {t : TypeId} {v : Value} (ht : P.underlying t = some .string) (ho : Value.okWide P w r b0 t v) (h : Rdb enc P w t v.cells.toList) : ∃ s : ByteArray, v = .string s ∧ s.size ≤ maxLen := by
  obtain ⟨n, rfl⟩ := okWide_string ht ho
  obtain ⟨m, h1, h2⟩ := h.str ht
  simp [Value.cells] at h1
  subst h1
  exact ⟨n, rfl, h2⟩
theorem arg_slice {r : Reach} {b0 : Nat} {t e : TypeId} {v : Value} {α : Type} {R : α → List Value → Prop} (ht : P.underlying t = some (.slice e)) (hsz : 0 < P.cellsOf e) (hR : ∀ cs, Rdb enc P w e cs → ∃ x, R x cs)
    (ho : Value.okWide P w r b0 t v) (h : Rdb enc P w t v.cells.toList) : ∃ l, SlR w (P.cellsOf e) R l v := by
  obtain ⟨a, len, cap, rfl⟩ := okWide_slice ht ho
  obtain ⟨v', l, h1, h2⟩ := h.slice ht hsz hR
  simp [Value.cells] at h1
  subst h1
  exact ⟨l, h2⟩

theorem wf_i64 {n : Int} (h : (Lit.int .i64 n).wf = true) : -9223372036854775808 ≤ n ∧ n ≤ 9223372036854775807 := by
  simpa [Lit.wf, IntKind.min, IntKind.max, IntKind.signed, IntKind.bits] using h
theorem wf_u8 {n : Int} (h : (Lit.int .u8 n).wf = true) : 0 ≤ n ∧ n ≤ 255 := by
  simpa [Lit.wf, IntKind.min, IntKind.max, IntKind.signed, IntKind.bits] using h

end

/-- From a contract to the machine's own statement. -/
theorem Fn.calls {P : Program} {B : World} {f : FuncId} {args : Array Value} (h : Fn P B f args { m := fun _ => none, n := B.heap.size } fun v _ => v = .bool true) :
    Calls P f args B fun e w' => e = .returned (.bool true) ∧ Below B.heap.size B w' :=
  (h.2 B (Rel.start B)).mono fun _ _ ⟨_, _, he, hr, hv⟩ => ⟨by rw [he, hv], hr.below⟩
end Go.Proofs.YtdbgeahmhfocaaaGreat

/- Objects: a struct in memory that owns some slices, folded into one. -/
namespace Go.Proofs.YtdbgeahmhfocaaaGreat
set_option linter.unusedSimpArgs false
set_option linter.unusedVariables false
open Go Go.RowKit

/-- What a slice that is owned holds: its elements' type, an element's cells, all its cells, how many elements. -/
structure Sp where
  ty : TypeId
  s : Nat
  cs : List Value
  n : Nat

def OwnL (σ : St) : List Sp → List Value → Prop
  | [], [] => True
  | x :: xs, v :: vs => Own σ x.ty x.s x.cs x.n v ∧ OwnL σ xs vs
  | _, _ => False
/-- A slice's block is not this one. -/
def Off (v : Value) (p : Nat) : Prop := blk v ≠ some p
/-- Two slices' blocks are apart. -/
def Dis (v w : Value) : Prop := ∀ b, blk v = some b → blk w ≠ some b
def OffL : List Value → Nat → Prop
  | [], _ => True
  | v :: vs, p => Off v p ∧ OffL vs p
def DisL (v : Value) : List Value → Prop
  | [] => True
  | u :: us => Dis v u ∧ DisL v us
/-- The blocks of these slices are apart, and none is 'p'. -/
def Apart : List Value → Nat → Prop
  | [], _ => True
  | v :: vs, p => Off v p ∧ DisL v vs ∧ Apart vs p
@[go_sem] theorem Off_some {b o p n c : Nat} : Off (.slice (some ⟨b, o, none⟩) n c) p = (b ≠ p) := by simp [Off, blk]
@[go_sem] theorem Off_none {p n c : Nat} : Off (.slice none n c) p = True := by simp [Off, blk]
@[go_sem] theorem Dis_some {b o b' o' n c n' c' : Nat} : Dis (.slice (some ⟨b, o, none⟩) n c) (.slice (some ⟨b', o', none⟩) n' c') = (b ≠ b') := by
  simp only [Dis, blk, Option.some.injEq, forall_eq', ne_eq, eq_iff_iff]
  exact ⟨fun h e => h e.symm, fun h e => h e.symm⟩
@[go_sem] theorem Dis_none {w : Value} {n c : Nat} : Dis (.slice none n c) w = True := by simp [Dis, blk]
@[go_sem] theorem Dis_none' {v : Value} {n c : Nat} : Dis v (.slice none n c) = True := by simp [Dis, blk]
@[go_sem] theorem OffL_nil {p : Nat} : OffL [] p = True := rfl
@[go_sem] theorem OffL_cons {v : Value} {vs : List Value} {p : Nat} : OffL (v :: vs) p = (Off v p ∧ OffL vs p) := rfl
@[go_sem] theorem DisL_nil {v : Value} : DisL v [] = True := rfl
@[go_sem] theorem DisL_cons {v u : Value} {us : List Value} : DisL v (u :: us) = (Dis v u ∧ DisL v us) := rfl
@[go_sem] theorem Apart_nil {p : Nat} : Apart [] p = True := rfl
@[go_sem] theorem Apart_cons {v : Value} {vs : List Value} {p : Nat} : Apart (v :: vs) p = (Off v p ∧ DisL v vs ∧ Apart vs p) := rfl
theorem OffL.mem {p : Nat} : ∀ {vs : List Value}, OffL vs p → ∀ v ∈ vs, blk v ≠ some p
  | v :: vs, h, u, hu => by
    rcases List.mem_cons.1 hu with rfl | hu
    · exact h.1
    · exact OffL.mem h.2 u hu
theorem OffL.of {p : Nat} : ∀ {vs : List Value}, (∀ v ∈ vs, blk v ≠ some p) → OffL vs p
  | [], _ => trivial
  | v :: vs, h => ⟨h v List.mem_cons_self, OffL.of fun u hu => h u (List.mem_cons_of_mem _ hu)⟩

def hs (h : Heaplet) : St := { m := fun c => (h c).map .raw, n := 0 }

def Obj (ty : TypeId) (root : List Value → List Value) (sp : List Sp) (p : Nat) (h : Heaplet) : Prop :=
  ∃ vs : List Value, h p = some (.cells (root vs).toArray ty (0, 0)) ∧ OwnL (hs h) sp vs ∧ Apart vs p

section
variable {P : Program} {B : World} {σ τ : St}

theorem Own.keepR {ty : TypeId} {s n : Nat} {cs : List Value} {v : Value} {σ' : St} (h : Own σ ty s cs n v) (hk : ∀ b o, blk v = some b → σ.m b = some (.raw o) → σ'.m b = some (.raw o)) : Own σ' ty s cs n v := by
  obtain ⟨h1, h | ⟨b, cap, sp, rfl, h2, h3, h4⟩⟩ := h
  · exact ⟨h1, .inl h⟩
  · exact ⟨h1, .inr ⟨b, cap, sp, rfl, h2, hk b _ rfl h3, h4⟩⟩
theorem Own.at_ {ty : TypeId} {s n : Nat} {cs : List Value} {v : Value} (h : Own σ ty s cs n v) {b : Nat} (hb : blk v = some b) : ∃ o, σ.m b = some (.raw o) := by
  obtain ⟨h1, ⟨rfl, _⟩ | ⟨b', cap, sp, rfl, h2, h3, h4⟩⟩ := h
  · cases hb
  · cases hb; exact ⟨_, h3⟩
theorem OwnL.keepR {σ' : St} : ∀ {xs : List Sp} {vs : List Value}, OwnL σ xs vs → (∀ v ∈ vs, ∀ b o, blk v = some b → σ.m b = some (.raw o) → σ'.m b = some (.raw o)) → OwnL σ' xs vs
  | [], [], _, _ => trivial
  | x :: xs, v :: vs, h, hk => ⟨h.1.keepR (hk v List.mem_cons_self), OwnL.keepR h.2 fun u hu => hk u (List.mem_cons_of_mem _ hu)⟩
theorem OwnL.at_ : ∀ {xs : List Sp} {vs : List Value}, OwnL σ xs vs → ∀ v ∈ vs, ∀ b, blk v = some b → ∃ o, σ.m b = some (.raw o)
  | [], [], _, _, hu, _, _ => (by cases hu)
  | [], _ :: _, h, _, _, _, _ => h.elim
  | _ :: _, [], h, _, _, _, _ => h.elim
  | x :: xs, v :: vs, h, u, hu, b, hb => by
    rcases List.mem_cons.1 hu with rfl | hu
    · exact h.1.at_ hb
    · exact OwnL.at_ h.2 u hu b hb

/-- An object is opened ahead of a call. -/
theorem Fn.openO {K : Value → St → Prop} {f : FuncId} {args : Array Value} {p : Nat} {ty : TypeId} {root : List Value → List Value} {sp : List Sp} (hm : σ.m p = some (.comp (Obj ty root sp p)))
    (he : ∃ fn, P.funcs[f]? = some fn ∧ (fn.name == "runtime.NumGoroutine") = false ∧ fn.body.isSome = true)
    (h : ∀ (vs : List Value) (τ : St), τ.wf B → τ.n = σ.n → τ.m p = some (.raw (.cells (root vs).toArray ty (0, 0))) → OwnL τ sp vs → Apart vs p →
      (∀ c x, c ≠ p → σ.m c = some x → τ.m c = some x ∧ OffL vs c) → Fn P B f args τ K) : Fn P B f args σ K := by
  refine Fn.opens hm he fun g τ hR hwf hn hg hd hk => ?_
  obtain ⟨vs, h1, h2, h3⟩ := hR
  have hx : ∀ b o, (hs g).m b = some (.raw o) → τ.m b = some (.raw o) := fun b o hb => by
    simp only [hs, Option.map_eq_some_iff] at hb
    obtain ⟨o', ho', e⟩ := hb
    cases e; exact hg b o ho'
  refine h vs τ hwf hn (hg p _ h1) (h2.keepR fun v _ b o _ hb => hx b o hb) h3 fun c x hc hcx => ⟨hk c x hc hcx, .of fun v hv hb => ?_⟩
  obtain ⟨o, ho⟩ := h2.at_ v hv c hb
  simp only [hs, Option.map_eq_some_iff] at ho
  obtain ⟨o', ho', _⟩ := ho
  rcases hd c o' ho' with h4 | h4
  · exact hc h4
  · rw [hcx] at h4; cases h4

/-- An object is closed. -/
theorem To.closeO {p : Nat} {ty : TypeId} {root : List Value → List Value} {sp : List Sp} (vs : List Value) (hp : τ.m p = some (.raw (.cells (root vs).toArray ty (0, 0)))) (ho : OwnL τ sp vs) (ha : Apart vs p)
    (hrest : ∀ c x, c ≠ p → σ.m c = some x → τ.m c = some x ∧ OffL vs c) : To B τ ((σ.set p (.comp (Obj ty root sp p))).up τ.n) := by
  have hin : ∀ v ∈ vs, ∀ b, blk v = some b → b ∈ p :: vs.filterMap blk := fun v hv b hb => List.mem_cons_of_mem _ (List.mem_filterMap.2 ⟨v, hv, hb⟩)
  refine To.close (p :: vs.filterMap blk) List.mem_cons_self hp ⟨vs, pick_of List.mem_cons_self hp, ho.keepR fun v hv b o hb hm => ?_, ha⟩ fun c x hc hx => ?_
  · simp only [hs, pick_of (hin v hv b hb) hm, Option.map_some]
  · obtain ⟨h1, h2⟩ := hrest c x hc hx
    refine ⟨fun hm => ?_, h1⟩
    rcases List.mem_cons.1 hm with h3 | h3
    · exact hc h3
    · obtain ⟨v, hv, hb⟩ := List.mem_filterMap.1 h3
      exact h2.mem v hv hb
/-- A new object: its root is a block of this view, its slices are owned by it. -/
theorem To.foldO {p : Nat} {ty : TypeId} {root : List Value → List Value} {sp : List Sp} (vs : List Value) (hp : τ.m p = some (.raw (.cells (root vs).toArray ty (0, 0)))) (ho : OwnL τ sp vs) (ha : Apart vs p)
    (hrest : ∀ c x, c ≠ p → σ.m c = some x → τ.m c = some x ∧ OffL vs c) : To B τ ((σ.set p (.comp (Obj ty root sp p))).up τ.n) := To.closeO vs hp ho ha hrest

theorem Fn.of'' {f : FuncId} {n : Nat} {c : Code} {rs : Array ResultVar} (hf : FnIs P f n c rs) {args : Array Value} {K : Value → St → Prop} (hsz : args.size ≤ n) (hwf : σ.wf B)
    (h : wpS P B none n c (retQ P B rs fun v σ' => ∃ σ'', To B σ' σ'' ∧ K v σ'') (fr0 args) σ) : Fn P B f args σ K := Fn.of' hf hsz fun _ => h
end
end Go.Proofs.YtdbgeahmhfocaaaGreat

/- What is asked behind a piece of code may be said in other words; a mid-condition between two pieces. -/
namespace Go.Proofs.YtdbgeahmhfocaaaGreat
set_option linter.unusedSimpArgs false
set_option linter.unusedVariables false
open Go Go.RowKit

section
variable {P : Program} {B : World}

theorem FnF_mono {g : Value} {args : Array Value} {σ : St} {K K' : Value → St → Prop} (hk : ∀ v σ', K v σ' → K' v σ') (h : FnF P B g args σ K) : FnF P B g args σ K' := by
  unfold FnF at h ⊢
  split at h <;> first | contradiction | skip
  exact h.mono hk

theorem pendQ_mono {Q Q' : Exit → Fr → St → Prop} (hq : ∀ x e σ, Q x e σ → Q' x e σ) {p : Option Code} {e : Fr} {σ : St} (h : pendQ Q p e σ) : pendQ Q' p e σ := by
  unfold pendQ at h ⊢
  split at h <;> first | contradiction | exact hq _ _ _ h

theorem wpS_mono {r : Option Nat} {n : Nat} : ∀ (c : Code) {Q Q' : Exit → Fr → St → Prop} (hq : ∀ x e σ, Q x e σ → Q' x e σ) (e : Fr) (σ : St), wpS P B r n c Q e σ → wpS P B r n c Q' e σ := by
  intro c
  induction c with
  | skip => exact fun hq e σ h => hq _ _ _ h
  | label l => exact fun hq e σ h => hq _ _ _ h
  | exit id => exact fun hq e σ h => hq _ _ _ h
  | goto l => exact fun hq e σ h => hq _ _ _ h
  | ret => exact fun hq e σ h => hq _ _ _ h
  | refuse why => exact fun hq e σ h => h.elim
  | region id ops draw =>
    intro Q Q' hq e σ h
    cases draw with
    | false => exact runL_mono (fun e σ => hq _ e σ) _ _ _ h
    | true => exact runD_mono (fun e σ => hq _ e σ) _ _ _ _ _ h
  | seq x y ihx ihy =>
    intro Q Q' hq e σ h
    refine ihx (fun z e σ hz => ?_) e σ h
    cases z with
    | normal => exact ihy hq e σ hz
    | _ => exact hq _ _ _ hz
  | cond c x y ihx ihy =>
    intro Q Q' hq e σ h
    simp only [wpS, brV] at h ⊢
    split at h <;> first | contradiction | skip
    exact ⟨fun hb => ihx hq e σ (h.1 hb), fun hb => ihy hq e σ (h.2 hb)⟩
  | block id c ih =>
    intro Q Q' hq e σ h
    refine ih (fun z e σ hz => ?_) e σ h
    cases z with
    | exit j =>
      simp only [blockQ] at hz ⊢
      split
      · rename_i hj; rw [if_pos hj] at hz; exact hq _ _ _ hz
      · rename_i hj; rw [if_neg hj] at hz; exact hq _ _ _ hz
    | _ => exact hq _ _ _ hz
  | loop c ih => exact fun hq e σ h hmix hok => (h hmix hok).mono hq
  | rangeFunc g ps x y ihx ihy =>
    intro Q Q' hq e σ h
    have step : ∀ (e : Fr) (l : Nat) (v : Value) (σ' : St), (∃ rec, σ'.m l = some (.raw (.loop rec)) ∧ rec.state ≠ .busy ∧ pendQ Q rec.pending e (σ'.set l (.raw (.loop { rec with state := .exhausted })))) →
        (∃ rec, σ'.m l = some (.raw (.loop rec)) ∧ rec.state ≠ .busy ∧ pendQ Q' rec.pending e (σ'.set l (.raw (.loop { rec with state := .exhausted })))) :=
      fun e l v σ' ⟨rec, h1, h2, h3⟩ => ⟨rec, h1, h2, pendQ_mono hq h3⟩
    cases r with
    | none => exact fun fn tm h1 h2 => FnF_mono (step _ _) (h fn tm h1 h2)
    | some l0 =>
      obtain ⟨rec0, hm0, h⟩ := h
      exact ⟨rec0, hm0, fun fn tm h1 h2 => FnF_mono (step _ _) (h fn tm h1 h2)⟩
  | scope c ih =>
    intro Q Q' hq e σ h
    cases r with
    | some l => exact h.elim
    | none =>
      refine ih (fun z e σ hz => ?_) e σ h
      cases z with
      | goto l => exact hz.elim
      | _ => exact hq _ _ _ hz

/-- Between two pieces of code just 'J' is kept. -/
theorem seq_mid {r : Option Nat} {n : Nat} {x y : Code} {Q : Exit → Fr → St → Prop} {e : Fr} {σ : St} (J : Fr → St → Prop) (h : wpS P B r n x (thenQ J Q) e σ) (hJ : ∀ e σ, J e σ → wpS P B r n y Q e σ) : wpS P B r n (.seq x y) Q e σ := by
  refine wpS_mono x (fun z e σ hz => ?_) e σ h
  cases z with
  | normal => exact hJ _ _ hz
  | _ => exact hz
theorem seq_of {r : Option Nat} {n : Nat} {x y : Code} {Q : Exit → Fr → St → Prop} {e : Fr} {σ : St} (h : wpS P B r n x (thenQ (wpS P B r n y Q) Q) e σ) : wpS P B r n (.seq x y) Q e σ := h
/-- A block's end is spoken of once. -/
theorem block_mid {r : Option Nat} {n : Nat} {id : Nat} {c : Code} {Q : Exit → Fr → St → Prop} {e : Fr} {σ : St} (J : Fr → St → Prop) (h : wpS P B r n c (blockQ id (thenQ J Q)) e σ) (hJ : ∀ e σ, J e σ → Q .normal e σ) : wpS P B r n (.block id c) Q e σ := by
  refine wpS_mono c (fun z e σ hz => ?_) e σ h
  cases z with
  | normal => exact hJ _ _ hz
  | exit j =>
    simp only [blockQ] at hz ⊢
    split
    · rename_i hj; rw [if_pos hj] at hz; exact hJ _ _ hz
    · rename_i hj; rw [if_neg hj] at hz; exact hz
  | _ => exact hz

/-- What a call leaves is a view of a world. -/
theorem Fn.wfK {f : FuncId} {args : Array Value} {σ : St} {K : Value → St → Prop} (h : Fn P B f args σ fun v σ' => σ'.wf B → K v σ') : Fn P B f args σ K :=
  ⟨h.1, fun w hw => (h.2 w hw).mono fun _ _ ⟨v, σ', e, r, k⟩ => ⟨v, σ', e, r, k r.wf⟩⟩
theorem callF_wf {f : FuncId} {args : Array Value} {d : Option Tmp} {K : Fr → St → Prop} {e : Fr} {σ : St} (h : Fn P B f args σ fun v σ' => σ'.wf B → K (e.put d v) σ') : callF P B f args d K e σ := h.wfK
theorem St.wf.set {σ : St} (h : σ.wf B) {b : Nat} (x : HP) (hb : B.heap.size ≤ b ∧ b < σ.n) : (σ.set b x).wf B := by
  refine ⟨h.1, fun c y hc => ?_⟩
  by_cases e : c = b
  · subst e; exact hb
  · rw [St.set_m_ne _ _ e] at hc; exact h.2 c y hc
theorem St.wf.up {σ : St} (h : σ.wf B) {k : Nat} (hk : σ.n ≤ k) : (σ.up k).wf B := ⟨Nat.le_trans h.1 hk, fun c y hc => by have := h.2 c y hc; simp only [St.up_n]; omega⟩
end
end Go.Proofs.YtdbgeahmhfocaaaGreat

/- Pieces of code, said by the machine: where a view may be changed for another one, and objects are opened and closed between them. -/
namespace Go.Proofs.YtdbgeahmhfocaaaGreat
set_option linter.unusedSimpArgs false
set_option linter.unusedVariables false
open Go Go.RowKit

section
variable (P : Program) (B : World)
def SemS (r : Option Nat) (n : Nat) (c : Code) (Q : Exit → Fr → St → Prop) (e : Fr) (σ : St) : Prop :=
  P.follows .mixedOrders = true → codeOk r.isSome n c = true → CodeR P B r n c Q e σ
end

/-- The facts of an object that lies open. -/
structure OpenO (τ : St) (p : Nat) (ty : TypeId) (root : List Value → List Value) (sp : List Sp) (vs : List Value) : Prop where
  root : τ.m p = some (.raw (.cells (root vs).toArray ty (0, 0)))
  own : OwnL τ sp vs
  apart : Apart vs p

section
variable {P : Program} {B : World} {r : Option Nat} {n : Nat} {c x y : Code} {Q Q' : Exit → Fr → St → Prop} {e : Fr} {σ τ : St}

theorem SemS.wp (h : σ.wf B → wpS P B r n c Q e σ) : SemS P B r n c Q e σ := fun hmix hok a w ha hw => wpS_sound hmix c Q e σ hok (h hw.wf) a w ha hw
theorem SemS.from (t : To B σ τ) (h : SemS P B r n c Q e τ) : SemS P B r n c Q e σ := fun hmix hok a w ha hw => h hmix hok a w ha (t w hw)
theorem SemS.mono (h : SemS P B r n c Q e σ) (hq : ∀ x e σ, Q x e σ → Q' x e σ) : SemS P B r n c Q' e σ := fun hmix hok => (h hmix hok).mono hq
theorem SemS.toQ (h : SemS P B r n c (fun x e σ => ∃ σ'', To B σ σ'' ∧ Q x e σ'') e σ) : SemS P B r n c Q e σ := fun hmix hok a w ha hw =>
  wpIn_mono (h hmix hok a w ha hw) fun _ _ w' ⟨e', σ', h1, h2, σ'', t, h3⟩ => ⟨e', σ'', h1, t w' h2, h3⟩
theorem SemS.seq (J : Fr → St → Prop) (h : SemS P B r n x (thenQ (fun e σ => ∃ σ'', To B σ σ'' ∧ J e σ'') Q) e σ) (hJ : ∀ e σ, σ.wf B → J e σ → SemS P B r n y Q e σ) : SemS P B r n (.seq x y) Q e σ := by
  intro hmix hok a w ha hw
  simp only [codeOk, Bool.and_eq_true] at hok
  refine wpIn_seq (wpIn_mono (h hmix hok.1 a w ha hw) ?_)
  rintro ex a' w' ⟨e', σ', ha', hw', hq⟩
  cases ex with
  | normal =>
    obtain ⟨σ'', t, hj⟩ := hq
    exact hJ e' σ'' (t w' hw').wf hj hmix hok.2 a' w' ha' (t w' hw')
  | _ => exact ⟨e', σ', ha', hw', hq⟩
theorem SemS.seqs (h : SemS P B r n x (thenQ (fun e σ => SemS P B r n y Q e σ) Q) e σ) : SemS P B r n (.seq x y) Q e σ :=
  SemS.seq (fun e σ => SemS P B r n y Q e σ) (h.mono fun z e σ hz => by cases z <;> first | exact ⟨σ, To.refl _ _, hz⟩ | exact hz) fun e σ _ h => h
theorem SemS.seqw (h : σ.wf B → wpS P B r n x (thenQ (fun e σ => SemS P B r n y Q e σ) Q) e σ) : SemS P B r n (.seq x y) Q e σ := SemS.seqs (SemS.wp h)
theorem SemS.cond {o : Operand} {b : Bool} (hb : ev e o = .bool b) (hx : b = true → SemS P B r n x Q e σ) (hy : b = false → SemS P B r n y Q e σ) : SemS P B r n (.cond o x y) Q e σ := by
  intro hmix hok a w ha hw
  simp only [codeOk, Bool.and_eq_true] at hok
  have hb' : a.eval o = .bool b := by rw [ha.eval]; exact hb
  cases b with
  | true => exact wpIn_cond_true hb' (hx rfl hmix hok.1 a w ha hw)
  | false => exact wpIn_cond_false hb' (hy rfl hmix hok.2 a w ha hw)
theorem SemS.block {id : Nat} (h : SemS P B r n c (blockQ id Q) e σ) : SemS P B r n (.block id c) Q e σ := by
  intro hmix hok a w ha hw
  refine wpIn_block (wpIn_mono (h hmix hok a w ha hw) ?_)
  rintro ex a' w' ⟨e', σ', ha', hw', hq⟩
  cases ex with
  | exit j =>
    simp only [blockQ] at hq
    simp only [Exit.inBlock]
    split <;> rename_i hj
    · rw [if_pos hj] at hq; exact ⟨e', σ', ha', hw', hq⟩
    · rw [if_neg hj] at hq; exact ⟨e', σ', ha', hw', hq⟩
  | _ => exact ⟨e', σ', ha', hw', hq⟩
/-- A loop; at a round's end the view may be changed for another one. -/
theorem SemS.loop (I : Nat → Fr → St → Prop) (m : Nat) (h0 : I m e σ)
    (hr : ∀ m e σ, σ.wf B → I m e σ → SemS P B r n c (thenQ (fun e' σ' => ∃ m', m' < m ∧ ∃ σ'', To B σ' σ'' ∧ I m' e' σ'') Q) e σ) : SemS P B r n (.loop c) Q e σ := by
  intro hmix hok a w ha hw
  refine wpIn_loop (F := FR r) (n := 0) (fun a w => ∃ m e σ, Is a n e ∧ Rel B w σ ∧ I m e σ) (fun a w => leastOf fun m => ∃ e σ, Is a n e ∧ Rel B w σ ∧ I m e σ) ⟨m, e, σ, ha, hw, h0⟩ ?_
  intro a w hex
  obtain ⟨⟨e, σ, ha, hw, hI⟩, _⟩ := leastOf_spec (p := fun m => ∃ e σ, Is a n e ∧ Rel B w σ ∧ I m e σ) hex
  have hb := hr _ e σ hw.wf hI hmix hok a w ha hw
  refine wpIn_mono hb ?_
  rintro ex a' w' ⟨e', σ', ha', hw', hq⟩
  cases ex with
  | normal =>
    obtain ⟨m', hlt, σ'', t, hI'⟩ := hq
    have hw'' := t w' hw'
    refine ⟨⟨m', e', σ'', ha', hw'', hI'⟩, Nat.lt_of_le_of_lt ?_ hlt⟩
    exact (leastOf_spec (p := fun m => ∃ e σ, Is a' n e ∧ Rel B w' σ ∧ I m e σ) ⟨m', e', σ'', ha', hw'', hI'⟩).2 m' ⟨e', σ'', ha', hw'', hI'⟩
  | _ => exact ⟨e', σ', ha', hw', hq⟩
theorem LoopS.of (h : SemS P B r n (.loop c) Q e σ) : LoopS P B r n c Q e σ := h

theorem OpenO.keepR {p : Nat} {ty : TypeId} {root : List Value → List Value} {sp : List Sp} {vs : List Value} (h : OpenO σ p ty root sp vs) (hp : σ.m p = τ.m p) (hk : ∀ v ∈ vs, ∀ b, blk v = some b → τ.m b = σ.m b) : OpenO τ p ty root sp vs :=
  ⟨hp ▸ h.root, h.own.keepR fun v hv b o hb hm => by rw [hk v hv b hb]; exact hm, h.apart⟩

theorem Rel.openO {w : World} (hw : Rel B w σ) {p : Nat} {ty : TypeId} {root : List Value → List Value} {sp : List Sp} (hm : σ.m p = some (.comp (Obj ty root sp p))) :
    ∃ vs τ, Rel B w τ ∧ τ.n = σ.n ∧ OpenO τ p ty root sp vs ∧ (∀ c x, c ≠ p → σ.m c = some x → τ.m c = some x ∧ OffL vs c) := by
  obtain ⟨g, hR, hd, hr⟩ := hw.opens hm
  have hg : ∀ c o, g c = some o → (σ.over p g).m c = some (.raw o) := fun c o hc => by simp [St.over, hc]
  have hk : ∀ c x, c ≠ p → σ.m c = some x → (σ.over p g).m c = some x := fun c x hcp hc => by
    have hgc : g c = none := by
      cases hg : g c with
      | none => rfl
      | some o => rcases hd c o hg with h1 | h1
                  · exact absurd h1 hcp
                  · rw [hc] at h1; cases h1
    simp [St.over, hgc, hcp, hc]
  obtain ⟨vs, h1, h2, h3⟩ := hR
  have hx : ∀ b o, (hs g).m b = some (.raw o) → (σ.over p g).m b = some (.raw o) := fun b o hb => by
    simp only [hs, Option.map_eq_some_iff] at hb
    obtain ⟨o', ho', e⟩ := hb
    cases e; exact hg b o ho'
  refine ⟨vs, _, hr, rfl, ⟨hg p _ h1, h2.keepR fun v _ b o _ hb => hx b o hb, h3⟩, fun c x hc hcx => ⟨hk c x hc hcx, .of fun v hv hb => ?_⟩⟩
  obtain ⟨o, ho⟩ := h2.at_ v hv c hb
  simp only [hs, Option.map_eq_some_iff] at ho
  obtain ⟨o', ho', _⟩ := ho
  rcases hd c o' ho' with h4 | h4
  · exact hc h4
  · rw [hcx] at h4; cases h4
/-- An object is opened here. -/
theorem SemS.openO {p : Nat} {ty : TypeId} {root : List Value → List Value} {sp : List Sp} (hm : σ.m p = some (.comp (Obj ty root sp p)))
    (h : ∀ vs τ, τ.wf B → τ.n = σ.n → OpenO τ p ty root sp vs → (∀ c x, c ≠ p → σ.m c = some x → τ.m c = some x ∧ OffL vs c) → SemS P B r n c Q e τ) : SemS P B r n c Q e σ := by
  intro hmix hok a w ha hw
  obtain ⟨vs, τ, h1, h2, h3, h4⟩ := hw.openO hm
  exact h vs τ h1.wf h2 h3 h4 hmix hok a w ha h1
theorem To.shut {p : Nat} {ty : TypeId} {root : List Value → List Value} {sp : List Sp} {vs : List Value} (h : OpenO τ p ty root sp vs)
    (hrest : ∀ c x, c ≠ p → σ.m c = some x → τ.m c = some x ∧ OffL vs c) : To B τ ((σ.set p (.comp (Obj ty root sp p))).up τ.n) := To.closeO vs h.root h.own h.apart hrest

/-- A function's contract, from its body, said by the machine. -/
theorem Fn.ofS {f : FuncId} {n : Nat} {c : Code} {rs : Array ResultVar} (hf : FnIs P f n c rs) {args : Array Value} (hsz : args.size ≤ n) {σ : St} {K : Value → St → Prop}
    (h : σ.wf B → SemS P B none n c (retQ P B rs fun v σ' => ∃ σ'', To B σ' σ'' ∧ K v σ'') (fr0 args) σ) : Fn P B f args σ K := by
  refine ⟨hf.en, fun w hw => ?_⟩
  obtain ⟨fn, h1, h2, h3, h4, h5⟩ := hf.is
  refine (callsIn_wide (n := 0)).1 (callsIn_of_wp_marks h1 h2 trivial ?_)
  rw [h3]
  have hs := h hw.wf hf.mix hf.ok _ w (is0 hsz) hw
  refine wpIn_mono hs ?_
  rintro ex a' w' ⟨e', σ', ha', hw', hq⟩
  have fin : Leave P B e'.d σ' (fun σ' => bindK (resL P B σ' e' rs.toList) fun vs => ∃ σ'', To B σ' σ'' ∧ K (tup vs) σ'') → LeavesInM Fence.wide 0 P fn a'.tmps (retP B K) a'.defers .returning w' := by
    intro hl
    rw [ha'.d]
    refine leave_sound fn (K := fun σ' => bindK (resL P B σ' e' rs.toList) fun vs => ∃ σ'', To B σ' σ'' ∧ K (tup vs) σ'') (fun σ2 w2 hw2 hk => ?_) e'.d σ' w' hw' hl
    obtain ⟨vs, hvs, σ'', t, hK⟩ := hk
    rw [← h4] at hvs
    exact ⟨_, run_results fn ha' hw2 hvs, _, σ'', rfl, t w2 hw2, hK⟩
  cases ex with
  | normal => exact fin hq
  | ret => exact fin hq
  | _ => exact hq.elim

/-- Behind a call an object is opened. -/
theorem Fn.kopen {f : FuncId} {args : Array Value} {K : Value → St → Prop} {p : Nat} {ty : TypeId} {root : List Value → List Value}
    (h : Fn P B f args σ fun v σ' => ∃ sp, σ'.m p = some (.comp (Obj ty root sp p)) ∧ ∀ vs τ, τ.wf B → τ.n = σ'.n → OpenO τ p ty root sp vs → (∀ c x, c ≠ p → σ'.m c = some x → τ.m c = some x ∧ OffL vs c) → K v τ) : Fn P B f args σ K :=
  ⟨h.1, fun w hw => (h.2 w hw).mono fun _ w' ⟨v, σ', e, hr, sp, hm, hk⟩ => let ⟨vs, τ, h1, h2, h3, h4⟩ := hr.openO hm; ⟨v, τ, e, h1, hk vs τ h1.wf h2 h3 h4⟩⟩
theorem Fn.toK {f : FuncId} {args : Array Value} {K : Value → St → Prop} (h : Fn P B f args σ fun v σ' => ∃ σ'', To B σ' σ'' ∧ K v σ'') : Fn P B f args σ K := h.conseq fun _ _ h => h

theorem St.set_same {p : Nat} {x : HP} (h : σ.m p = some x) : σ.set p x = σ := by
  simp only [St.set]
  congr 1
  funext c
  split
  · rename_i e; rw [e, h]
  · rfl
end
end Go.Proofs.YtdbgeahmhfocaaaGreat

/- More rules for the walk: slices cut out of slices. -/
namespace Go.Proofs.YtdbgeahmhfocaaaGreat
set_option linter.unusedSimpArgs false
set_option linter.unusedVariables false
open Go Go.RowKit

section
variable {P : Program} {B : World} {σ : St} {e : Fr} {t : TypeId} {d : Option Tmp} {K : Fr → St → Prop} {k k' : IntKind}
theorem addr_add_zero (a : Addr) : a.add 0 = a := by unfold Addr.add; simp
def slH (a : Option Addr) (cap : Nat) (i : Int) : Option (Option Nat × Nat × Bool) → Option Value
  | some (none, _, _) => if 0 ≤ i ∧ i ≤ cap then some (.slice a i.toNat cap) else none
  | _ => none
@[go_sem] theorem slc_hi {a : Option Addr} {n c : Nat} {i : Int} : slc P t (.slice a n c) none (some (.int k i)) none = slH a c i (ik P t) := by
  unfold slc slH
  simp only
  cases ik P t with
  | none => rfl
  | some x =>
    obtain ⟨y, s, g⟩ := x
    cases y with
    | some y => rfl
    | none =>
      simp only [sbs, sbd, Option.bind_some]
      by_cases h : 0 ≤ i ∧ i ≤ c
      · have hm : a.map (fun x => x.add 0) = a := by cases a <;> simp [addr_add_zero]
        simp [h, hm]
      · simp [h]
@[go_sem] theorem slH_some {a : Option Addr} {c s : Nat} {i : Int} {g : Bool} : slH a c i (some (none, s, g)) = if 0 ≤ i ∧ i ≤ c then some (.slice a i.toNat c) else none := rfl
/-- Where a slice begins that is cut off at its front. -/
def slA (a : Option Addr) (cap i s : Nat) : Option Addr := if cap = i then a else a.map (·.add (i * s))
def slL (a : Option Addr) (n cap : Nat) (i : Int) : Option (Option Nat × Nat × Bool) → Option Value
  | some (none, s, _) => if 0 ≤ i ∧ i ≤ n then some (.slice (slA a cap i.toNat s) (n - i.toNat) (cap - i.toNat)) else none
  | _ => none
@[go_sem] theorem slc_lo {a : Option Addr} {n c : Nat} {i : Int} : slc P t (.slice a n c) (some (.int k i)) none none = slL a n c i (ik P t) := by
  unfold slc slL slA
  simp only
  cases ik P t with
  | none => rfl
  | some x =>
    obtain ⟨y, s, g⟩ := x
    cases y with
    | some y => rfl
    | none =>
      simp only [sbs, sbd, Option.bind_some]
      by_cases h : 0 ≤ i ∧ i ≤ n <;> simp [h]
@[go_sem] theorem slL_some {a : Option Addr} {n c s : Nat} {i : Int} {g : Bool} : slL a n c i (some (none, s, g)) = if 0 ≤ i ∧ i ≤ n then some (.slice (slA a c i.toNat s) (n - i.toNat) (c - i.toNat)) else none := rfl
theorem slA_mk {b o c i s : Nat} (h : ¬ c = i) : slA (some ⟨b, o, none⟩) c i s = some ⟨b, o + i * s, none⟩ := by simp [slA, h, add_none]
end

/-! ### Numbers -/
def ints (l : List Int) : List Value := l.map (Value.int .i64)
theorem ints_len (l : List Int) : (ints l).length = l.length := by simp [ints]
theorem ints_get {l : List Int} {i : Nat} {x : Int} (h : l[i]? = some x) (sp : List Value) : (ints l ++ sp)[i]? = some (.int .i64 x) := by
  have hl := (List.getElem?_eq_some_iff.1 h).1
  rw [List.getElem?_append_left (by rw [ints_len]; exact hl)]
  simp [ints, h]
theorem ints_append (l l' : List Int) : ints (l ++ l') = ints l ++ ints l' := by simp [ints]
theorem ints_set {l : List Int} {i : Nat} (sp : List Value) (hi : i < l.length) (x : Int) : (ints l ++ sp).set i (.int .i64 x) = ints (l.set i x) ++ sp := by
  rw [List.set_append_left _ _ (by rw [ints_len]; exact hi)]
  simp [ints, List.map_set]
def bools (l : List Bool) : List Value := l.map Value.bool
theorem bools_len (l : List Bool) : (bools l).length = l.length := by simp [bools]
theorem bools_get {l : List Bool} {i : Nat} {x : Bool} (h : l[i]? = some x) (sp : List Value) : (bools l ++ sp)[i]? = some (.bool x) := by
  have hl := (List.getElem?_eq_some_iff.1 h).1
  rw [List.getElem?_append_left (by rw [bools_len]; exact hl)]
  simp [bools, h]
theorem bools_append (l l' : List Bool) : bools (l ++ l') = bools l ++ bools l' := by simp [bools]
theorem bools_set {l : List Bool} {i : Nat} (sp : List Value) (hi : i < l.length) (x : Bool) : (bools l ++ sp).set i (.bool x) = bools (l.set i x) ++ sp := by
  rw [List.set_append_left _ _ (by rw [bools_len]; exact hi)]
  simp [bools, List.map_set]

/-! ### What is owned, more -/
section
variable {σ : St}
theorem OwnL.one {x : Sp} {vs : List Value} (h : OwnL σ [x] vs) : ∃ v, vs = [v] ∧ Own σ x.ty x.s x.cs x.n v := by
  match vs, h with
  | [v], ⟨h, _⟩ => exact ⟨v, rfl, h⟩
theorem OwnL.two {x y : Sp} {vs : List Value} (h : OwnL σ [x, y] vs) : ∃ v w, vs = [v, w] ∧ Own σ x.ty x.s x.cs x.n v ∧ Own σ y.ty y.s y.cs y.n w := by
  match vs, h with
  | [v, w], ⟨h, h', _⟩ => exact ⟨v, w, rfl, h, h'⟩
theorem OwnL.three {x y z : Sp} {vs : List Value} (h : OwnL σ [x, y, z] vs) : ∃ v w u, vs = [v, w, u] ∧ Own σ x.ty x.s x.cs x.n v ∧ Own σ y.ty y.s y.cs y.n w ∧ Own σ z.ty z.s z.cs z.n u := by
  match vs, h with
  | [v, w, u], ⟨h, h', h'', _⟩ => exact ⟨v, w, u, rfl, h, h', h''⟩
theorem OwnL.four {x y z t : Sp} {vs : List Value} (h : OwnL σ [x, y, z, t] vs) : ∃ v w u s, vs = [v, w, u, s] ∧ Own σ x.ty x.s x.cs x.n v ∧ Own σ y.ty y.s y.cs y.n w ∧ Own σ z.ty z.s z.cs z.n u ∧ Own σ t.ty t.s t.cs t.n s := by
  match vs, h with
  | [v, w, u, s], ⟨h, h', h'', h3, _⟩ => exact ⟨v, w, u, s, rfl, h, h', h'', h3⟩
/-- Not empty: it has a block. -/
theorem Own.has {ty : TypeId} {s n : Nat} {cs : List Value} {v : Value} (h : Own σ ty s cs n v) (hn : 0 < n) : ∃ b cap sp, v = .slice (some ⟨b, 0, none⟩) n cap ∧ n ≤ cap ∧ σ.m b = some (.raw (.cells (cs ++ sp).toArray ty (0, 0))) ∧ (cs ++ sp).length = cap * s ∧ cs.length = n * s := by
  obtain ⟨h1, ⟨_, h2⟩ | ⟨b, cap, sp, h2, h3, h4, h5⟩⟩ := h
  · omega
  · exact ⟨b, cap, sp, h2, h3, h4, h5, h1⟩
theorem Own.of' {ty : TypeId} {s n b cap : Nat} {cs sp : List Value} (h3 : σ.m b = some (.raw (.cells (cs ++ sp).toArray ty (0, 0)))) (h1 : cs.length = n * s) (h2 : n ≤ cap) (h4 : (cs ++ sp).length = cap * s) : Own σ ty s cs n (.slice (some ⟨b, 0, none⟩) n cap) :=
  ⟨h1, .inr ⟨b, cap, sp, rfl, h2, h3, h4⟩⟩
theorem Own.of {ty : TypeId} {s n b cap : Nat} {cs sp : List Value} (h1 : cs.length = n * s) (h2 : n ≤ cap) (h3 : σ.m b = some (.raw (.cells (cs ++ sp).toArray ty (0, 0)))) (h4 : (cs ++ sp).length = cap * s) : Own σ ty s cs n (.slice (some ⟨b, 0, none⟩) n cap) :=
  ⟨h1, .inr ⟨b, cap, sp, rfl, h2, h3, h4⟩⟩
end
end Go.Proofs.YtdbgeahmhfocaaaGreat

/- An object that lies open while a function works on it: each step leaves it open. -/
namespace Go.Proofs.YtdbgeahmhfocaaaGreat
set_option linter.unusedSimpArgs false
set_option linter.unusedVariables false
open Go Go.RowKit

/-- 'τ' is the view 'σ' with the object at 'p' laid open, and worked on. -/
structure Opn (B : World) (σ τ : St) (p : Nat) (ty : TypeId) (root : List Value → List Value) (sp : List Sp) (vs : List Value) : Prop where
  wf : τ.wf B
  root : τ.m p = some (.raw (.cells (root vs).toArray ty (0, 0)))
  own : OwnL τ sp vs
  apart : Apart vs p
  fr : ∀ c x, c ≠ p → σ.m c = some x → τ.m c = some x ∧ OffL vs c
  n : σ.n ≤ τ.n

section
variable {P : Program} {B : World} {σ τ τ' : St} {p : Nat} {ty : TypeId} {root root' : List Value → List Value} {sp : List Sp} {vs : List Value}

theorem OwnL.get {i : Nat} {x : Sp} : ∀ {xs : List Sp} {vs : List Value} {i : Nat}, OwnL σ xs vs → xs[i]? = some x → ∃ v, vs[i]? = some v ∧ Own σ x.ty x.s x.cs x.n v
  | [], [], _, _, h => (by simp at h)
  | [], _ :: _, _, h, _ => h.elim
  | _ :: _, [], _, h, _ => h.elim
  | x :: xs, v :: vs, 0, h, hi => by simp at hi; subst hi; exact ⟨v, rfl, h.1⟩
  | x :: xs, v :: vs, i + 1, h, hi => by simpa using OwnL.get (i := i) h.2 (by simpa using hi)
theorem OwnL.set {σ' : St} {x' : Sp} {v' : Value} (hv' : Own σ' x'.ty x'.s x'.cs x'.n v') : ∀ {xs : List Sp} {vs : List Value} {i : Nat}, OwnL σ xs vs →
    (∀ j v, j ≠ i → vs[j]? = some v → ∀ b o, blk v = some b → σ.m b = some (.raw o) → σ'.m b = some (.raw o)) → OwnL σ' (xs.set i x') (vs.set i v')
  | [], [], _, _, _ => trivial
  | [], _ :: _, _, h, _ => h.elim
  | _ :: _, [], _, h, _ => h.elim
  | x :: xs, v :: vs, 0, h, hk => ⟨hv', h.2.keepR fun u hu b o hb ho => by
      obtain ⟨j, hj⟩ := List.getElem?_of_mem hu
      exact hk (j + 1) u (by omega) (by simpa using hj) b o hb ho⟩
  | x :: xs, v :: vs, i + 1, h, hk => ⟨h.1.keepR fun b o => hk 0 v (by omega) rfl b o, OwnL.set hv' (i := i) h.2 fun j u hj hu => hk (j + 1) u (by omega) (by simpa using hu)⟩
theorem DisL.mem {v : Value} : ∀ {us : List Value}, DisL v us → ∀ u ∈ us, Dis v u
  | w :: us, h, u, hu => by
    rcases List.mem_cons.1 hu with rfl | hu
    · exact h.1
    · exact DisL.mem h.2 u hu
theorem DisL.of {v : Value} : ∀ {us : List Value}, (∀ u ∈ us, Dis v u) → DisL v us
  | [], _ => trivial
  | w :: us, h => ⟨h w List.mem_cons_self, DisL.of fun u hu => h u (List.mem_cons_of_mem _ hu)⟩
theorem Dis.symm {v w : Value} (h : Dis v w) : Dis w v := fun b hb hb' => h b hb' hb
theorem Apart.off : ∀ {vs : List Value}, Apart vs p → OffL vs p
  | [], _ => trivial
  | v :: vs, h => ⟨h.1, h.2.2.off⟩
theorem Apart.dis : ∀ {vs : List Value} {i j : Nat} {v w : Value}, Apart vs p → i ≠ j → vs[i]? = some v → vs[j]? = some w → Dis v w
  | u :: vs, 0, 0, v, w, h, hij, hi, hj => absurd rfl hij
  | u :: vs, 0, j + 1, v, w, h, hij, hi, hj => by simp at hi; subst hi; exact h.2.1.mem w (List.mem_of_getElem? (by simpa using hj))
  | u :: vs, i + 1, 0, v, w, h, hij, hi, hj => by simp at hj; subst hj; exact (h.2.1.mem v (List.mem_of_getElem? (by simpa using hi))).symm
  | u :: vs, i + 1, j + 1, v, w, h, hij, hi, hj => Apart.dis (i := i) (j := j) h.2.2 (by omega) (by simpa using hi) (by simpa using hj)
theorem Apart.set {v' : Value} (ho : Off v' p) : ∀ {vs : List Value} {i : Nat}, Apart vs p → (∀ j u, j ≠ i → vs[j]? = some u → Dis v' u) → Apart (vs.set i v') p
  | [], _, _, _ => trivial
  | v :: vs, 0, h, hd => ⟨ho, .of fun u hu => by
      obtain ⟨j, hj⟩ := List.getElem?_of_mem hu
      exact hd (j + 1) u (by omega) (by simpa using hj), h.2.2⟩
  | v :: vs, i + 1, h, hd => ⟨h.1, .of fun u hu => by
      obtain ⟨j, hj⟩ := List.getElem?_of_mem hu
      by_cases hji : j = i
      · subst hji
        have hl : j < vs.length := by
          rcases Nat.lt_or_ge j vs.length with h1 | h1
          · exact h1
          · rw [List.getElem?_eq_none (by simpa using h1)] at hj; cases hj
        rw [List.getElem?_set_self hl] at hj
        cases hj
        exact (hd 0 v (by omega) rfl).symm
      · rw [List.getElem?_set_ne (Ne.symm hji)] at hj
        exact h.2.1.mem u (List.mem_of_getElem? hj), Apart.set ho (i := i) h.2.2 fun j u hj hu => hd (j + 1) u (by omega) (by simpa using hu)⟩
theorem OffL.set {v' : Value} {c : Nat} (ho : Off v' c) : ∀ {vs : List Value} {i : Nat}, OffL vs c → OffL (vs.set i v') c
  | [], _, _ => trivial
  | v :: vs, 0, h => ⟨ho, h.2⟩
  | v :: vs, i + 1, h => ⟨h.1, OffL.set ho h.2⟩
theorem OffL.get {c i : Nat} {v : Value} {vs : List Value} (h : OffL vs c) (hv : vs[i]? = some v) : blk v ≠ some c := h.mem v (List.mem_of_getElem? hv)

theorem Opn.lt (h : Opn B σ τ p ty root sp vs) {i b : Nat} {v : Value} (hv : vs[i]? = some v) (hb : blk v = some b) : b < τ.n := by
  obtain ⟨o, ho⟩ := h.own.at_ v (List.mem_of_getElem? hv) b hb
  exact (h.wf.2 b _ ho).2

/-- Other blocks are new, or the same. -/
theorem Opn.more (h : Opn B σ τ p ty root sp vs) (hwf : τ'.wf B) (hk : ∀ c x, τ.m c = some x → τ'.m c = some x) (hn : τ.n ≤ τ'.n) : Opn B σ τ' p ty root sp vs :=
  ⟨hwf, hk _ _ h.root, h.own.keepR fun v hv b o hb ho => hk _ _ ho, h.apart, fun c x hc hx => let ⟨h1, h2⟩ := h.fr c x hc hx; ⟨hk _ _ h1, h2⟩, Nat.le_trans h.n hn⟩
theorem Opn.up (h : Opn B σ τ p ty root sp vs) {k : Nat} (hk : τ.n ≤ k) : Opn B σ (τ.up k) p ty root sp vs := h.more (h.wf.up hk) (fun _ _ h => h) hk
/-- A new block. -/
theorem Opn.new (h : Opn B σ τ p ty root sp vs) (x : HP) {k : Nat} (hk : τ.n < k) : Opn B σ ((τ.set τ.n x).up k) p ty root sp vs := by
  have hwf : ((τ.set τ.n x).up k).wf B := by
    refine ⟨Nat.le_trans h.wf.1 (Nat.le_of_lt hk), fun c y hc => ?_⟩
    simp only [St.up_m] at hc
    by_cases e : c = τ.n
    · subst e; exact ⟨h.wf.1, hk⟩
    · rw [St.set_m_ne _ _ e] at hc
      have := h.wf.2 c y hc
      simp only [St.up_n]; omega
  refine h.more hwf (fun c y hc => ?_) (by simp only [St.up_n]; omega)
  have := (h.wf.2 c y hc).2
  simp only [St.up_m]
  rw [St.set_m_ne _ _ (by omega)]; exact hc
/-- A block that is none of the object's is written, and it is not one of the first view's. -/
theorem Opn.side (h : Opn B σ τ p ty root sp vs) {b : Nat} (x : HP) (hb : b ≠ p) (ho : OffL vs b) (hs : σ.m b = none) (hin : B.heap.size ≤ b ∧ b < τ.n) : Opn B σ (τ.set b x) p ty root sp vs := by
  have hk : ∀ c, c ≠ b → (τ.set b x).m c = τ.m c := fun c hc => St.set_m_ne _ _ hc
  refine ⟨h.wf.set x hin, (hk p (Ne.symm hb)).trans h.root, h.own.keepR fun v hv c o hc hm => ?_, h.apart, fun c y hc hy => ?_, h.n⟩
  · rw [hk c fun e => ho.mem v hv (e ▸ hc)]; exact hm
  · obtain ⟨h1, h2⟩ := h.fr c y hc hy
    rw [hk c fun e => by subst e; rw [hs] at hy; cases hy]
    exact ⟨h1, h2⟩
/-- The root is written; the slices stay. -/
theorem Opn.rt (h : Opn B σ τ p ty root sp vs) (root' : List Value → List Value) : Opn B σ (τ.set p (.raw (.cells (root' vs).toArray ty (0, 0)))) p ty root' sp vs := by
  have hp := h.wf.2 p _ h.root
  refine ⟨h.wf.set _ hp, by simp, h.own.keepR fun v hv c o hc hm => ?_, h.apart, fun c y hc hy => ?_, h.n⟩
  · rw [St.set_m_ne _ _ fun e => by rw [e] at hc; exact h.apart.off.mem v hv hc]; exact hm
  · rw [St.set_m_ne _ _ hc]; exact h.fr c y hc hy
/-- One of the slices is another one now: of new memory, or of its own block. -/
theorem Opn.sl (h : Opn B σ τ p ty root sp vs) {i : Nat} {x x' : Sp} {v v' : Value} (hx : sp[i]? = some x) (hv : vs[i]? = some v) (hown : Own τ' x'.ty x'.s x'.cs x'.n v') (hb : ∀ b, blk v' = some b → (τ.n ≤ b ∧ b < τ'.n) ∨ blk v = some b)
    (hk : ∀ c x, blk v' ≠ some c → blk v ≠ some c → τ.m c = some x → τ'.m c = some x) (hn : τ.n ≤ τ'.n) (hnew : ∀ c x, τ'.m c = some x → τ.m c = some x ∨ (τ.n ≤ c ∧ c < τ'.n) ∨ blk v = some c) :
    (∀ y, (τ'.set p y).wf B) ∧ τ'.m p = some (.raw (.cells (root vs).toArray ty (0, 0))) ∧ ∀ root' : List Value → List Value, Opn B σ (τ'.set p (.raw (.cells (root' (vs.set i v')).toArray ty (0, 0)))) p ty root' (sp.set i x') (vs.set i v') := by
  have hp := h.wf.2 p _ h.root
  have hwf : τ'.wf B := ⟨Nat.le_trans h.wf.1 hn, fun c y hc => by
    have := h.wf.1
    rcases hnew c y hc with h1 | h1 | h1
    · have := h.wf.2 c y h1; omega
    · omega
    · have h2 := h.lt hv h1
      obtain ⟨o, ho⟩ := h.own.at_ v (List.mem_of_getElem? hv) c h1
      have := (h.wf.2 c _ ho).1
      omega⟩
  have hvp : blk v ≠ some p := h.apart.off.get hv
  have hv'p : blk v' ≠ some p := fun e => by
    rcases hb p e with h1 | h1
    · omega
    · exact hvp h1
  have hpp := hk p _ hv'p hvp h.root
  have hdis : ∀ j u, j ≠ i → vs[j]? = some u → Dis v' u := fun j u hj hu b hbv hbu => by
    rcases hb b hbv with h1 | h1
    · have := h.lt hu hbu; omega
    · exact h.apart.dis (Ne.symm hj) hv hu b h1 hbu
  refine ⟨fun y => hwf.set _ ⟨hp.1, by omega⟩, hpp, fun root' => ⟨hwf.set _ ⟨hp.1, by omega⟩, by simp, ?_, h.apart.set hv'p hdis, fun c y hc hy => ?_, Nat.le_trans h.n hn⟩⟩
  · refine OwnL.set (hown.keepR fun b o hbv ho => ?_) h.own fun j u hj hu b o hbu ho => ?_
    · rw [St.set_m_ne _ _ fun e => by rw [e] at hbv; exact hv'p hbv]; exact ho
    · rw [St.set_m_ne _ _ fun e => by rw [e] at hbu; exact h.apart.off.get hu hbu]
      exact hk b _ (fun e => hdis j u hj hu b e hbu) (fun e => h.apart.dis (Ne.symm hj) hv hu b e hbu) ho
  · obtain ⟨h1, h2⟩ := h.fr c y hc hy
    have hcn := (h.wf.2 c _ h1).2
    have hc1 : blk v ≠ some c := h2.get hv
    have hc2 : blk v' ≠ some c := fun e => by
      rcases hb c e with h3 | h3
      · omega
      · exact hc1 h3
    exact ⟨by rw [St.set_m_ne _ _ hc]; exact hk c _ hc2 hc1 h1, h2.set hc2⟩
/-- Cells of a slice's own block are written. -/
theorem Opn.wr (h : Opn B σ τ p ty root sp vs) {i b n c : Nat} {x : Sp} {cs' spare : List Value} (hx : sp[i]? = some x) (hv : vs[i]? = some (.slice (some ⟨b, 0, none⟩) n c)) (hm : τ.m b = some (.raw (.cells (x.cs ++ spare).toArray x.ty (0, 0)))) (hl : cs'.length = x.cs.length) :
    Opn B σ (τ.set b (.raw (.cells (cs' ++ spare).toArray x.ty (0, 0)))) p ty root (sp.set i { x with cs := cs' }) vs := by
  have hbp : b ≠ p := fun e => h.apart.off.get hv (by rw [e]; rfl)
  have hbn := h.wf.2 b _ hm
  have hvs : vs.set i (.slice (some ⟨b, 0, none⟩) n c) = vs := by
    apply List.ext_getElem?
    intro j
    by_cases hji : j = i
    · subst hji
      rw [List.getElem?_set_self (List.getElem?_eq_some_iff.1 hv).1, hv]
    · rw [List.getElem?_set_ne (Ne.symm hji)]
  obtain ⟨v, hv2, hown⟩ := h.own.get (i := i) hx
  obtain rfl : _ = v := Option.some.inj (hv.symm.trans hv2)
  refine ⟨h.wf.set _ hbn, by rw [St.set_m_ne _ _ (Ne.symm hbp)]; exact h.root, ?_, h.apart, fun d y hd hy => ?_, h.n⟩
  · have : OwnL (τ.set b (.raw (.cells (cs' ++ spare).toArray x.ty (0, 0)))) (sp.set i { x with cs := cs' }) (vs.set i (.slice (some ⟨b, 0, none⟩) n c)) := by
      refine OwnL.set (x' := { x with cs := cs' }) ?_ h.own fun j u hj hu d o hbu ho => ?_
      · obtain ⟨h1, h2 | ⟨b', cap, sp', h2, h3, h4, h5⟩⟩ := hown
        · cases h2.1
        · cases h2
          rw [hm] at h4
          simp only [Option.some.injEq, HP.raw.injEq, Obj.cells.injEq, and_true] at h4
          have hsp : spare = sp' := by simpa using h4
          subst hsp
          exact ⟨by simp only [hl, h1], .inr ⟨_, _, spare, rfl, h3, by simp, by simp only [List.length_append] at h5 ⊢; omega⟩⟩
      · rw [St.set_m_ne _ _ fun e => h.apart.dis (Ne.symm hj) hv hu b rfl (by rw [← e]; exact hbu)]; exact ho
    rwa [hvs] at this
  · obtain ⟨h1, h2⟩ := h.fr d y hd hy
    exact ⟨by rw [St.set_m_ne _ _ fun e => h2.get hv (by rw [e]; rfl)]; exact h1, h2⟩
/-- A slice of the object is cut, or replaced within its block: the root is written. -/
theorem Opn.tr (h : Opn B σ τ p ty root sp vs) {i : Nat} {x x' : Sp} {v v' : Value} (hx : sp[i]? = some x) (hv : vs[i]? = some v) (hown : Own τ x'.ty x'.s x'.cs x'.n v') (hb : ∀ b, blk v' = some b → blk v = some b) (root' : List Value → List Value) :
    Opn B σ (τ.set p (.raw (.cells (root' (vs.set i v')).toArray ty (0, 0)))) p ty root' (sp.set i x') (vs.set i v') :=
  (h.sl hx hv hown (fun b hb' => .inr (hb b hb')) (fun _ _ _ _ h => h) (Nat.le_refl _) (fun c x hc => .inl hc)).2.2 root'

theorem Opn.cast {sp' : List Sp} (h : Opn B σ τ p ty root sp vs) (e : sp = sp') : Opn B σ τ p ty root sp' vs := e ▸ h
theorem Opn.at_ (h : Opn B σ τ p ty root sp vs) {τ' : St} (e : τ = τ') : Opn B σ τ' p ty root sp vs := e ▸ h
/-- The object is closed. -/
theorem Opn.close (h : Opn B σ τ p ty root sp vs) {K : Value → St → Prop} {r : Value} (hK : ∀ k, σ.n ≤ k → K r ((σ.set p (.comp (Obj ty root sp p))).up k)) : ∃ σ'', To B τ σ'' ∧ K r σ'' :=
  ⟨_, To.closeO vs h.root h.own h.apart h.fr, hK _ h.n⟩
/-- The object is closed, as it was. -/
theorem Opn.close' (h : Opn B σ τ p ty root sp vs) (hm : σ.m p = some (.comp (Obj ty root sp p))) {K : Value → St → Prop} {r : Value} (hK : ∀ k, σ.n ≤ k → K r (σ.up k)) : ∃ σ'', To B τ σ'' ∧ K r σ'' :=
  h.close fun k hk => by rw [St.set_same hm]; exact hK k hk

theorem Fn.opn {K : Value → St → Prop} {f n : Nat} {c : Code} {rs : Array ResultVar} {args : Array Value} (hm : σ.m p = some (.comp (Obj ty root sp p))) (hf : FnIs P f n c rs) (hsz : args.size ≤ n)
    (h : ∀ (vs : List Value) (τ : St), τ.n = σ.n → Opn B σ τ p ty root sp vs → wpS P B none n c (retQ P B rs fun v σ' => ∃ σ'', To B σ' σ'' ∧ K v σ'') (fr0 args) τ) : Fn P B f args σ K :=
  Fn.openO hm hf.en fun vs τ hwf hn hr ho ha hk => Fn.of'' hf hsz hwf (h vs τ hn ⟨hwf, hr, ho, ha, hk, by omega⟩)
theorem Fn.opnS {K : Value → St → Prop} {f n : Nat} {c : Code} {rs : Array ResultVar} {args : Array Value} (hm : σ.m p = some (.comp (Obj ty root sp p))) (hf : FnIs P f n c rs) (hsz : args.size ≤ n)
    (h : ∀ (vs : List Value) (τ : St), τ.n = σ.n → Opn B σ τ p ty root sp vs → SemS P B none n c (retQ P B rs fun v σ' => ∃ σ'', To B σ' σ'' ∧ K v σ'') (fr0 args) τ) : Fn P B f args σ K :=
  Fn.openO hm hf.en fun vs τ hwf hn hr ho ha hk => Fn.ofS hf hsz fun _ => h vs τ hn ⟨hwf, hr, ho, ha, hk, by omega⟩

/-- 'append' of one element to the i-th slice of an object that lies open. -/
theorem appO_one {d : Option Tmp} {K : Fr → St → Prop} {e : Fr} (h : Opn B σ τ p ty root sp vs) (i : Nat) {t xt el : TypeId} {s bts n b c : Nat} {z sv : Value} {cs ys : List Value} (hx : sp[i]? = some ⟨el, s, cs, n⟩) (hv : vs[i]? = some sv)
    (ht : se P t = some (el, s, bts)) (hxt : kd P xt = .slice) (hz : zr P el = some z) (hzs : z.cells.size = s) (hb0 : bts ≠ 0)
    {ty' : TypeId} {fz : Nat × Nat} (hm : τ.m b = some (.raw (.cells ys.toArray ty' fz))) (hyl : ys.length = s) (hy1 : ys.all Value.oneCell' = true) (hroom : (2 * (n + 1) + 768) * bts ≤ 2 ^ 48)
    (hK : ∀ A C σ', n + 1 ≤ C → σ'.m p = some (.raw (.cells (root vs).toArray ty (0, 0))) → (∀ root' : List Value → List Value, Opn B σ (σ'.set p (.raw (.cells (root' (vs.set i (.slice A (n + 1) C))).toArray ty (0, 0)))) p ty root' (sp.set i ⟨el, s, cs ++ ys, n + 1⟩) (vs.set i (.slice A (n + 1) C))) →
      (∀ c x, τ.m c = some x → OffL vs c → σ'.m c = some x) → τ.n ≤ σ'.n → K (e.put d (.slice A (n + 1) C)) σ') :
    appK P B t xt sv (.slice (some ⟨b, 0, none⟩) 1 c) d K e τ := by
  obtain ⟨v, hv2, hown⟩ := h.own.get (i := i) hx
  obtain rfl : _ = v := Option.some.inj (hv.symm.trans hv2)
  refine appK_one2 ht hxt hz hzs hb0 hown hm hyl hy1 hroom fun v' σ' h1 h2 h3 h4 => ?_
  have hne : ∀ c x, blk v' ≠ some c → blk sv ≠ some c → τ.m c = some x → σ'.m c = some x := fun c x hc _ hx => by rw [h3 c hc]; exact hx
  obtain ⟨q1, q2, q3⟩ := h.sl (τ' := σ') (x' := ⟨el, s, cs ++ ys, n + 1⟩) hx hv h1 (fun b hb => (h2 b hb).imp (fun ⟨e1, e2⟩ => ⟨by omega, by omega⟩) id) hne h4 (fun c x hc => by
    by_cases e : blk v' = some c
    · rcases h2 c e with ⟨e1, e2⟩ | e1
      · exact .inr (.inl ⟨by omega, by omega⟩)
      · exact .inr (.inr e1)
    · rw [h3 c e] at hc; exact .inl hc)
  obtain ⟨A, C, rfl, hC⟩ := h1.is
  refine hK A C σ' hC q2 q3 (fun c x hc ho => ?_) h4
  refine hne c x (fun e => ?_) (ho.get hv) hc
  rcases h2 c e with ⟨e1, _⟩ | e1
  · have := (h.wf.2 c _ hc).2; omega
  · exact ho.get hv e1

/-- 'append([]T{}, x...)', put in the place of the i-th slice. -/
theorem appO_new {d : Option Tmp} {K : Fr → St → Prop} {e : Fr} (h : Opn B σ τ p ty root sp vs) (i : Nat) {t xt el : TypeId} {s bts n m : Nat} {z sv xv : Value} {cs ys : List Value} (hx : sp[i]? = some ⟨el, s, cs, n⟩) (hv : vs[i]? = some sv)
    (ht : se P t = some (el, s, bts)) (hxt : kd P xt = .slice) (hz : zr P el = some z) (hzs : z.cells.size = s) (hb0 : bts ≠ 0)
    (hfc : fc B ((τ.set τ.n (.raw (.cells #[] el (0, 0)))).up (τ.n + 1)) s xv = some (m, ys)) (hyl : ys.length = m * s) (hy1 : ys.all Value.oneCell' = true) (hroom : (2 * m + 768) * bts ≤ 2 ^ 48)
    (hK : ∀ A C σ', m ≤ C → σ'.m p = some (.raw (.cells (root vs).toArray ty (0, 0))) → (∀ root' : List Value → List Value, Opn B σ (σ'.set p (.raw (.cells (root' (vs.set i (.slice A m C))).toArray ty (0, 0)))) p ty root' (sp.set i ⟨el, s, ys, m⟩) (vs.set i (.slice A m C))) →
      (∀ c x, τ.m c = some x → OffL vs c → σ'.m c = some x) → τ.n ≤ σ'.n → K (e.put d (.slice A m C)) σ') :
    appK P B t xt (.slice (some ⟨τ.n, 0, none⟩) 0 0) xv d K e ((τ.set τ.n (.raw (.cells #[] el (0, 0)))).up (τ.n + 1)) := by
  have hown0 : Own ((τ.set τ.n (.raw (.cells #[] el (0, 0)))).up (τ.n + 1)) el s [] 0 (.slice (some ⟨τ.n, 0, none⟩) 0 0) := Own.of' (sp := []) (by simp) (by simp) (Nat.le_refl _) (by simp)
  refine app_own2 ht (.inr hxt) hz hzs hb0 hown0 hfc hyl hy1 (by simpa using hroom) fun v' σ' h1 h2 h3 h4 => ?_
  simp only [List.nil_append, Nat.zero_add] at h1
  simp only [St.up_n] at h4
  have hle : τ.n ≤ σ'.n := by omega
  have hb : ∀ b, blk v' = some b → τ.n ≤ b ∧ b < σ'.n := fun b hb => by
    rcases h2 b hb with ⟨e1, e2⟩ | e1
    · simp only [St.up_n] at e1 e2; omega
    · simp only [blk, Option.some.injEq] at e1; omega
  have hkeep : ∀ c x, τ.m c = some x → σ'.m c = some x := fun c x hc => by
    have hcn := (h.wf.2 c _ hc).2
    rw [h3 c fun e => by have := hb c e; omega]
    simp only [St.up_m]
    rw [St.set_m_ne _ _ (by omega)]; exact hc
  obtain ⟨q1, q2, q3⟩ := h.sl (τ' := σ') (x' := ⟨el, s, ys, m⟩) hx hv h1 (fun b hb' => .inl (hb b hb')) (fun c x _ _ hc => hkeep c x hc) hle (fun c x hc => by
    by_cases e : blk v' = some c
    · exact .inr (.inl (hb c e))
    · rw [h3 c e] at hc
      simp only [St.up_m] at hc
      by_cases e2 : c = τ.n
      · exact .inr (.inl (by omega))
      · rw [St.set_m_ne _ _ e2] at hc; exact .inl hc)
  obtain ⟨A, C, rfl, hC⟩ := h1.is
  exact hK A C σ' hC q2 q3 (fun c x hc _ => hkeep c x hc) hle

/-- What is left of a slice behind its first elements. -/
theorem own_drop {ty : TypeId} {s n c i : Nat} {cs : List Value} {a : Option Addr} (h : Own σ ty s cs n (.slice a n c)) (hi : i ≤ n) : fc B σ s (.slice (slA a c i s) (n - i) (c - i)) = some (n - i, cs.drop (i * s)) := by
  obtain ⟨h1, ⟨h2, h3⟩ | ⟨b, cap, sp, h2, h3, h4, h5⟩⟩ := h
  · cases h2
    have : i = 0 := by omega
    subst this
    have : cs = [] := by simpa using h1
    subst this
    simp [slA, fc]
  · cases h2
    have hl : (cs.drop (i * s)).length = (n - i) * s := by rw [List.length_drop, h1, Nat.sub_mul]
    by_cases hc : c = i
    · have hn : n - i = 0 := by omega
      have hd : cs.drop (i * s) = [] := by rw [← List.length_eq_zero_iff, hl, hn]; simp
      rw [hd, hn, slA, if_pos hc]
      simp [fc, rds]
    · rw [slA_mk hc]
      have := rds_cells (B := B) (o := 0 + i * s) h4 (cs.drop (i * s)) 0 (fun j v hj => by
        have hjl := (List.getElem?_eq_some_iff.1 hj).1
        rw [List.getElem?_drop] at hj
        simp only [Nat.zero_add, Nat.add_zero, List.getElem?_toArray]
        rw [List.getElem?_append_left (by simp at hjl; omega)]; exact hj)
      simp only [fc, ← hl, this, Option.map_some]
theorem own_take {ty : TypeId} {s n c k : Nat} {cs : List Value} {a : Option Addr} (h : Own σ ty s cs n (.slice a n c)) (hk : k ≤ n) : fc B σ s (.slice a k c) = some (k, cs.take (k * s)) := (h.trunc hk).fc
end
end Go.Proofs.YtdbgeahmhfocaaaGreat

/- Slices that a frame owns: 'append', and what of the rest is kept. -/
namespace Go.Proofs.YtdbgeahmhfocaaaGreat
set_option linter.unusedSimpArgs false
set_option linter.unusedVariables false
open Go Go.RowKit

section
variable {P : Program} {B : World} {s : St} {d : Option Tmp} {K : Fr → St → Prop} {e : Fr}

/-- 'append' of one element to a slice that the frame owns. -/
theorem appF_one {t xt el : TypeId} {sz bts n c : Nat} {z w : Value} {cs ys : List Value} (hwf : s.wf B) (hw : Own s el sz cs n w) (ht : se P t = some (el, sz, bts)) (hxt : kd P xt = .slice) (hz : zr P el = some z) (hzs : z.cells.size = sz) (hb0 : bts ≠ 0)
    {ty : TypeId} (hyl : ys.length = sz) (hy1 : ys.all Value.oneCell' = true) (hroom : (2 * (n + 1) + 768) * bts ≤ 2 ^ 48)
    (hK : ∀ A C σ', n + 1 ≤ C → Own σ' el sz (cs ++ ys) (n + 1) (.slice A (n + 1) C) → σ'.wf B →
      (∀ (ty' : TypeId) (sz' n' : Nat) (cs' : List Value) (u : Value), Own s ty' sz' cs' n' u → Dis w u → Own σ' ty' sz' cs' n' u ∧ Dis (.slice A (n + 1) C) u) →
      (∀ c x, s.m c = some x → blk w ≠ some c → σ'.m c = some x) → (∀ b, blk (.slice A (n + 1) C) = some b → s.n ≤ b ∨ blk w = some b) → s.n ≤ σ'.n → K (e.put d (.slice A (n + 1) C)) σ') :
    appK P B t xt w (.slice (some ⟨s.n, 0, none⟩) 1 c) d K e ((s.set s.n (.raw (.cells ys.toArray ty (0, 0)))).up (s.n + 1)) := by
  have keep : ∀ c x, s.m c = some x → ((s.set s.n (.raw (.cells ys.toArray ty (0, 0)))).up (s.n + 1)).m c = some x := fun c x hc => by
    have := (hwf.2 c _ hc).2
    simp only [St.up_m]
    rw [St.set_m_ne _ _ (by omega)]; exact hc
  refine appK_one2 ht hxt hz hzs hb0 (hw.keepR fun b o _ hb => keep b _ hb) (ty := ty) (fz := (0, 0)) (by simp) hyl hy1 hroom fun v' σ' h1 h2 h3 h4 => ?_
  obtain ⟨A, C, rfl, hC⟩ := h1.is
  simp only [St.up_n] at h2 h4
  have hle : s.n ≤ σ'.n := by omega
  have hb : ∀ b, blk (.slice A (n + 1) C) = some b → s.n ≤ b ∨ blk w = some b := fun b hb => (h2 b hb).imp (fun h => by omega) id
  have hk : ∀ c x, s.m c = some x → blk w ≠ some c → σ'.m c = some x := fun c x hc hw' => by
    have hcn := (hwf.2 c _ hc).2
    rw [h3 c fun e => (hb c e).elim (by omega) hw']
    exact keep c x hc
  have hdis : ∀ u, (∀ b, blk u = some b → ∃ o, s.m b = some (.raw o)) → Dis w u → Dis (.slice A (n + 1) C) u := fun u hu hd b hbv hbu => by
    rcases hb b hbv with h | h
    · obtain ⟨o, ho⟩ := hu b hbu
      have := (hwf.2 b _ ho).2; omega
    · exact hd b h hbu
  refine hK A C σ' hC h1 ⟨Nat.le_trans hwf.1 hle, fun c x hc => ?_⟩ (fun ty' sz' n' cs' u hu hd => ⟨hu.keepR fun b o hbu ho => hk b _ ho fun e => hd b e hbu, hdis u (fun b hb => hu.at_ hb) hd⟩) hk hb hle
  have hB := hwf.1
  by_cases e1 : blk (.slice A (n + 1) C) = some c
  · rcases h2 c e1 with ⟨e2, e3⟩ | e2
    · omega
    · obtain ⟨o, ho⟩ := hw.at_ e2
      have := hwf.2 c _ ho; omega
  · rw [h3 c e1] at hc
    simp only [St.up_m] at hc
    by_cases e2 : c = s.n
    · omega
    · rw [St.set_m_ne _ _ e2] at hc
      have := hwf.2 c _ hc; omega

theorem Rd.mono' {l : Nat} {args : Array Value} {σ : St} {K K' : Value → St → Prop} (h : Rd P B l args σ K) (hk : ∀ v σ', K v σ' → K' v σ') : Rd P B l args σ K' := by
  obtain ⟨r, h1, h2, h3⟩ := h
  exact ⟨r, h1, h2, fun w hw => RoundIn.mono (h3 w hw) fun _ _ ⟨v, s, a, b, d⟩ => ⟨v, s, a, b, hk _ _ d⟩⟩
/-- An object is closed; what else lies open is kept. -/
theorem Opn.leave {σ τ : St} {p : Nat} {ty : TypeId} {root : List Value → List Value} {sp : List Sp} {vs : List Value} (h : Opn B σ τ p ty root sp vs) :
    ∃ σ'', To B τ σ'' ∧ σ''.m p = some (.comp (Obj ty root sp p)) ∧ σ''.n = τ.n ∧ ∀ c x, c ≠ p → τ.m c = some x → OffL vs c → σ''.m c = some x := by
  have hin : ∀ v ∈ vs, ∀ b, blk v = some b → b ∈ p :: vs.filterMap blk := fun v hv b hb => List.mem_cons_of_mem _ (List.mem_filterMap.2 ⟨v, hv, hb⟩)
  refine ⟨τ.fold p (pick τ (p :: vs.filterMap blk)) (Obj ty root sp p), To.fold p _ (fun c o hc => ?_) ?_ ⟨vs, pick_of List.mem_cons_self h.root, h.own.keepR fun v hv b o hb hm => ?_, h.apart⟩, by simp [St.fold], rfl, fun c x hc hx ho => ?_⟩
  · unfold pick at hc
    split at hc
    · split at hc <;> first | contradiction | skip
      rename_i o2 hm
      cases hc; exact hm
    · cases hc
  · rw [pick_of List.mem_cons_self h.root]; rfl
  · simp only [hs, pick_of (hin v hv b hb) hm, Option.map_some]
  · have : c ∉ p :: vs.filterMap blk := fun hm => by
      rcases List.mem_cons.1 hm with h3 | h3
      · exact hc h3
      · obtain ⟨v, hv, hb⟩ := List.mem_filterMap.1 h3
        exact ho.mem v hv hb
    have hp : pick τ (p :: vs.filterMap blk) c = none := by unfold pick; rw [if_neg this]
    simp only [St.fold, if_neg hc, hp, Option.isSome_none, Bool.false_eq_true, if_false]; exact hx
end

/-! ### An element of an array's value -/
section
variable {P : Program} {t : TypeId} {k : IntKind}
def ixA (l : List Value) (i : Int) : Option (Option Nat × Nat × Bool) → Option Value
  | some (some n, s, false) => if 0 ≤ i ∧ i < n then nthV l (i.toNat * s) else none
  | some (some n, s, true) => if 0 ≤ i ∧ i < n then some (.agg (l.toArray.extract (i.toNat * s) (i.toNat * s + s))) else none
  | _ => none
@[go_sem] theorem ixv_agg {l : List Value} {i : Int} : ixv P t (.agg l.toArray) (.int k i) = ixA l i (ik P t) := by
  unfold ixv ixA
  simp only
  cases ik P t with
  | none => rfl
  | some x =>
    obtain ⟨y, s, g⟩ := x
    cases y with
    | none => rfl
    | some y => cases g <;> simp [nthV_eq]
@[go_sem] theorem ixA_one {l : List Value} {i : Int} {n s : Nat} : ixA l i (some (some n, s, false)) = if 0 ≤ i ∧ i < n then nthV l (i.toNat * s) else none := rfl
end
end Go.Proofs.YtdbgeahmhfocaaaGreat

/- Maps whose keys are numbers. -/
namespace Go.Proofs.YtdbgeahmhfocaaaGreat
set_option linter.unusedSimpArgs false
set_option linter.unusedVariables false
open Go Go.RowKit

abbrev Mp := List (Int × Value)
def ents : Mp → Nat → List MapEntry
  | [], _ => []
  | (k, v) :: l, i => ⟨.int .i64 k, v, i⟩ :: ents l (i + 1)
/-- A map's block. -/
def mapO (l : Mp) : Go.Obj := .map (ents l 0).toArray l.length
def mget : Mp → Int → Option Value
  | [], _ => none
  | (k, v) :: l, x => if x = k then some v else mget l x
def mput : Mp → Int → Value → Mp
  | [], x, y => [(x, y)]
  | (k, v) :: l, x, y => if x = k then (x, y) :: l else (k, v) :: mput l x y
theorem mget_put (l : Mp) (x : Int) (v : Value) (y : Int) : mget (mput l x v) y = if y = x then some v else mget l y := by
  induction l with
  | nil => simp [mput, mget]
  | cons p l ih =>
    obtain ⟨k, u⟩ := p
    unfold mput
    by_cases h : x = k
    · subst h
      rw [if_pos rfl]
      simp only [mget]
      split <;> rfl
    · rw [if_neg h]
      simp only [mget, ih]
      by_cases h1 : y = k
      · have : ¬ y = x := by omega
        simp [h1, Ne.symm h]
      · simp [h1]
def mfind : Mp → Int → Nat → Option (Nat × Value)
  | [], _, _ => none
  | (k, v) :: l, x, i => if x = k then some (i, v) else mfind l x (i + 1)
theorem find_ents (q : IntKind) (x : Int) : ∀ (l : Mp) (i j : Nat), Instr.findNow (.int q) (.int .i64 x) (ents l j) i = some (mfind l x i)
  | [], i, j => rfl
  | (k, v) :: l, i, j => by
    unfold ents Instr.findNow mfind
    simp only [Instr.sameNow, if_true]
    by_cases h : x = k
    · subst h; simp
    · have : (x == k) = false := by simpa using h
      rw [this, if_neg h]
      exact find_ents q x l (i + 1) (j + 1)
theorem mfind_get (x : Int) : ∀ (l : Mp) (i : Nat), (mfind l x i).map (fun z => z.2) = mget l x
  | [], _ => rfl
  | (k, v) :: l, i => by
    unfold mfind mget
    split
    · rfl
    · exact mfind_get x l (i + 1)
theorem mfind_none (x : Int) (y : Value) : ∀ (l : Mp) (i : Nat), mfind l x i = none → mput l x y = l ++ [(x, y)]
  | [], _, _ => rfl
  | (k, v) :: l, i, h => by
    unfold mfind at h
    split at h
    · cases h
    · rename_i hn
      simp only [mput, if_neg hn, List.cons_append, mfind_none x y l (i + 1) h]
theorem mfind_ge (x : Int) : ∀ (l : Mp) (i j : Nat) (v : Value), mfind l x i = some (j, v) → i ≤ j
  | [], _, _, _, h => by simp [mfind] at h
  | (k, u) :: l, i, j, v, h => by
    unfold mfind at h
    split at h
    · simp only [Option.some.injEq, Prod.mk.injEq] at h; omega
    · have := mfind_ge x l (i + 1) j v h; omega
theorem mfind_some (x : Int) (y : Value) : ∀ (l : Mp) (i j b : Nat) (v : Value), mfind l x i = some (j, v) → (ents l b).modify (j - i) (fun e => { e with key := .int .i64 x, val := y }) = ents (mput l x y) b ∧ (mput l x y).length = l.length
  | [], _, _, _, _, h => by simp [mfind] at h
  | (k, u) :: l, i, j, b, v, h => by
    unfold mfind at h
    split at h
    · rename_i he
      subst he
      simp only [Option.some.injEq, Prod.mk.injEq] at h
      obtain ⟨rfl, _⟩ := h
      simp [mput, ents]
    · rename_i hn
      have hge := mfind_ge x l (i + 1) j v h
      obtain ⟨h1, h2⟩ := mfind_some x y l (i + 1) j (b + 1) v h
      have hj : j - i = (j - (i + 1)) + 1 := by omega
      simp only [mput, if_neg hn, ents, hj, List.modify_succ_cons, h1, List.length_cons, h2, and_self]
theorem ents_length : ∀ (l : Mp) (i : Nat), (ents l i).length = l.length
  | [], _ => rfl
  | (k, v) :: l, i => by simp [ents, ents_length l (i + 1)]
theorem ents_append : ∀ (l : Mp) (i : Nat) (x : Int) (v : Value), ents (l ++ [(x, v)]) i = ents l i ++ [⟨.int .i64 x, v, i + l.length⟩]
  | [], i, x, v => by simp [ents]
  | (k, u) :: l, i, x, v => by
    simp only [List.cons_append, ents, ents_append l (i + 1) x v, List.length_cons]
    congr 4; omega

section
variable {P : Program} {B : World} {σ : St} {e : Fr} {t : TypeId} {d : Option Tmp} {K : Fr → St → Prop}
/-- Are a map's keys numbers? The zero value of its elements. -/
def mky (P : Program) (t : TypeId) : Option Value :=
  match P.underlying t with
  | some (.map key elem) => match P.underlying key with | some (.int .i64) => zr P elem | _ => none
  | _ => none
theorem lk_mapO {r : Nat} {x : Int} {l : Mp} {z : Value} {ok : Bool} (hm : σ.m r = some (.raw (mapO l))) (hz : mky P t = some z) :
    lk P σ t (.map (some r)) (.int .i64 x) ok = some (if ok then .tuple #[(mget l x).getD z, .bool (mget l x).isSome] else (mget l x).getD z) := by
  unfold mky at hz
  split at hz <;> first | contradiction | skip
  rename_i key elem hu
  split at hz <;> first | contradiction | skip
  rename_i hk
  unfold lk
  simp only [hu, hk, hz, plainKey, if_true, hm, mapO, List.toList_toArray, find_ents]
  have := mfind_get x l 0
  cases hf : mfind l x 0 with
  | none =>
    rw [hf] at this
    rw [← this]
    cases ok <;> rfl
  | some p =>
    obtain ⟨j, v⟩ := p
    rw [hf] at this
    rw [← this]
    cases ok <;> rfl
theorem lk_nil {x : Int} {z : Value} {ok : Bool} (hz : mky P t = some z) : lk P σ t (.map none) (.int .i64 x) ok = some (if ok then .tuple #[z, .bool false] else z) := by
  unfold mky at hz
  split at hz <;> first | contradiction | skip
  rename_i key elem hu
  split at hz <;> first | contradiction | skip
  rename_i hk
  unfold lk
  simp only [hu, hk, hz, plainKey, if_true]
theorem mus_mapO {r : Nat} {x : Int} {v : Value} {l : Mp} {z : Value} (hm : σ.m r = some (.raw (mapO l))) (hz : mky P t = some z) :
    mus P σ t (.map (some r)) (.int .i64 x) v = some (σ.set r (.raw (mapO (mput l x v)))) := by
  unfold mky at hz
  split at hz <;> first | contradiction | skip
  rename_i key elem hu
  split at hz <;> first | contradiction | skip
  rename_i hk
  unfold mus
  simp only [hu, hk, plainKey, if_true, hm, musK, mapO, List.toList_toArray, find_ents]
  cases hf : mfind l x 0 with
  | none =>
    simp only [mfind_none x v l 0 hf, ents_append, List.push_toArray, List.length_append, List.length_cons, List.length_nil, Nat.zero_add]
  | some p =>
    obtain ⟨j, u⟩ := p
    obtain ⟨h1, h2⟩ := mfind_some x v l 0 j 0 u hf
    simp only [Nat.sub_zero] at h1
    simp only [← h1, h2]
    congr 4
    apply Array.ext'
    simp
def lkV (z : Value) (ok : Bool) (o : Option Value) : Value := if ok then .tuple #[o.getD z, .bool o.isSome] else o.getD z
@[go_sem] theorem lkV_false {z : Value} {o : Option Value} : lkV z false o = o.getD z := rfl
@[go_sem] theorem lkV_true {z : Value} {o : Option Value} : lkV z true o = .tuple #[o.getD z, .bool o.isSome] := rfl
noncomputable def lk0 (P : Program) (σ : St) (t : TypeId) (x i : Value) (ok : Bool) : Option Value := lk P σ t x i ok
def lkM (o : Option Value) (z : Value) (ok : Bool) (x : Int) : Option HP → Option Value
  | some (.raw (.map es c)) =>
    match Instr.findNow (.int .i64) (.int .i64 x) es.toList 0 with
    | some r => some (lkV z ok (r.map fun p => p.2))
    | none => o
  | _ => o
def lkQ (o z : Option Value) (ok : Bool) (x : Int) (h : Option HP) : Option Value := match z with | some z => lkM o z ok x h | none => o
@[go_sem] theorem lk_go {r : Nat} {x : Int} {ok : Bool} : lk P σ t (.map (some r)) (.int .i64 x) ok = lkQ (lk0 P σ t (.map (some r)) (.int .i64 x) ok) (mky P t) ok x (σ.m r) := by
  unfold lkQ
  split
  · rename_i z hz
    unfold lkM
    split
    · rename_i es c hm
      unfold lk0
      unfold mky at hz
      split at hz <;> first | contradiction | skip
      rename_i key elem hu
      split at hz <;> first | contradiction | skip
      rename_i hk
      simp only [lk, hu, hk, hz, plainKey, if_true, hm]
      generalize Instr.findNow (.int .i64) (.int .i64 x) es.toList 0 = q
      cases q with
      | none => rfl
      | some r' =>
        cases r' with
        | none => cases ok <;> rfl
        | some p => obtain ⟨j, v⟩ := p; cases ok <;> rfl
    · rfl
  · rfl
@[go_sem] theorem lkQ_some {o : Option Value} {z : Value} {ok : Bool} {x : Int} {h : Option HP} : lkQ o (some z) ok x h = lkM o z ok x h := rfl
@[go_sem] theorem lkM_mapO {o : Option Value} {z : Value} {ok : Bool} {x : Int} {l : Mp} : lkM o z ok x (some (.raw (mapO l))) = some (lkV z ok (mget l x)) := by
  simp only [lkM, mapO, List.toList_toArray, find_ents, mfind_get]
noncomputable def mus0 (P : Program) (σ : St) (t : TypeId) (m k v : Value) : Option St := mus P σ t m k v
def musM (o : Option St) (r : Nat) (x : Int) (v : Value) (σ : St) : Option HP → Option St
  | some (.raw (.map es c)) => musK (.int .i64) r (.int .i64 x) v σ (some (.raw (.map es c)))
  | _ => o
def musQ (o : Option St) (z : Option Value) (r : Nat) (x : Int) (v : Value) (σ : St) (h : Option HP) : Option St := match z with | some _ => musM o r x v σ h | none => o
@[go_sem] theorem mus_go {r : Nat} {x : Int} {v : Value} : mus P σ t (.map (some r)) (.int .i64 x) v = musQ (mus0 P σ t (.map (some r)) (.int .i64 x) v) (mky P t) r x v σ (σ.m r) := by
  unfold musQ
  split
  · rename_i z hz
    unfold musM
    split
    · rename_i es c hm
      unfold mky at hz
      split at hz <;> first | contradiction | skip
      rename_i key elem hu
      split at hz <;> first | contradiction | skip
      rename_i hk
      simp only [mus, hu, hk, plainKey, if_true, hm]
    · rfl
  · rfl
@[go_sem] theorem musQ_some {o : Option St} {z : Value} {r : Nat} {x : Int} {v : Value} {h : Option HP} : musQ o (some z) r x v σ h = musM o r x v σ h := rfl
@[go_sem] theorem musM_mapO {o : Option St} {r : Nat} {x : Int} {v : Value} {l : Mp} : musM o r x v σ (some (.raw (mapO l))) = some (σ.set r (.raw (mapO (mput l x v)))) := by
  simp only [musM, mapO, musK, List.toList_toArray, find_ents]
  cases hf : mfind l x 0 with
  | none =>
    simp only [mfind_none x v l 0 hf, ents_append, List.push_toArray, List.length_append, List.length_cons, List.length_nil, Nat.zero_add]
  | some p =>
    obtain ⟨j, u⟩ := p
    obtain ⟨h1, h2⟩ := mfind_some x v l 0 j 0 u hf
    simp only [Nat.sub_zero] at h1
    simp only [← h1, h2]
    congr 4
    apply Array.ext'
    simp
end
/-! ### Deferred calls -/
section
variable {P : Program} {B : World} {σ : St}
@[go_sem] theorem Leave_fn {f : FuncId} {cap args : Array Value} {ds : List Deferred} {K : St → Prop} : Leave P B (⟨.fn (.func f) cap, args⟩ :: ds) σ K = DFn P B f (args ++ cap) σ fun σ' => Leave P B ds σ' K := rfl
def dretQ (P : Program) (B : World) (rs : Array ResultVar) (K : St → Prop) : Exit → Fr → St → Prop := fun x e σ' => (x = .normal ∨ x = .ret) ∧ e.d = [] ∧ (∃ vs, resL P B σ' e rs.toList = some vs) ∧ K σ'
@[go_sem] theorem dretQ_normal {rs : Array ResultVar} {K : St → Prop} {e : Fr} : dretQ P B rs K .normal e σ = (e.d = [] ∧ (∃ vs, resL P B σ e rs.toList = some vs) ∧ K σ) := by simp [dretQ]
@[go_sem] theorem dretQ_ret {rs : Array ResultVar} {K : St → Prop} {e : Fr} : dretQ P B rs K .ret e σ = (e.d = [] ∧ (∃ vs, resL P B σ e rs.toList = some vs) ∧ K σ) := by simp [dretQ]
theorem DFn.of' {f : FuncId} {n : Nat} {c : Code} {rs : Array ResultVar} (hf : FnIs P f n c rs) {args : Array Value} (hsz : args.size ≤ n) {K : St → Prop} (h : σ.wf B → wpS P B none n c (dretQ P B rs K) (fr0 args) σ) : DFn P B f args σ K := DFn.of hf hsz h
end
@[go_sem] theorem mapO_nil : (.map #[] 0 : Go.Obj) = mapO [] := rfl
@[go_sem] theorem eqB_map_some' {x : Nat} {k : Option Nat} : eqB .map (.map (some x)) (.map none) = some (.bool false) := rfl
end Go.Proofs.YtdbgeahmhfocaaaGreat

/- Facts about the types and functions of this seat: each by the kernel. -/
namespace Go.Proofs.YtdbgeahmhfocaaaGreat
open Go
theorem mix : Tryz.prog.follows .mixedOrders = true := by kernel_rfl
@[go_sem] theorem kd1 : kd Tryz.prog 1 = .func := by kernel_rfl
@[go_sem] theorem tk1 : tk Tryz.prog 1 = some (false, 1) := by kernel_rfl
@[go_sem] theorem zr1 : zr Tryz.prog 1 = some (.nilFunc) := by kernel_rfl
@[go_sem] theorem kd3 : kd Tryz.prog 3 = .int .i64 := by kernel_rfl
@[go_sem] theorem tk3 : tk Tryz.prog 3 = some (false, 1) := by kernel_rfl
@[go_sem] theorem zr3 : zr Tryz.prog 3 = some (.int .i64 0) := by kernel_rfl
@[go_sem] theorem kd4 : kd Tryz.prog 4 = .bool := by kernel_rfl
@[go_sem] theorem tk4 : tk Tryz.prog 4 = some (false, 1) := by kernel_rfl
@[go_sem] theorem zr4 : zr Tryz.prog 4 = some (.bool false) := by kernel_rfl
@[go_sem] theorem kd5 : kd Tryz.prog 5 = .int .u8 := by kernel_rfl
@[go_sem] theorem tk5 : tk Tryz.prog 5 = some (false, 1) := by kernel_rfl
@[go_sem] theorem zr5 : zr Tryz.prog 5 = some (.int .u8 0) := by kernel_rfl
@[go_sem] theorem kd9 : kd Tryz.prog 9 = .string := by kernel_rfl
@[go_sem] theorem tk9 : tk Tryz.prog 9 = some (false, 1) := by kernel_rfl
@[go_sem] theorem zr9 : zr Tryz.prog 9 = some (.string ⟨#[]⟩) := by kernel_rfl
@[go_sem] theorem kd22 : kd Tryz.prog 22 = .slice := by kernel_rfl
@[go_sem] theorem tk22 : tk Tryz.prog 22 = some (false, 1) := by kernel_rfl
@[go_sem] theorem zr22 : zr Tryz.prog 22 = some (.slice none 0 0) := by kernel_rfl
@[go_sem] theorem ik22 : ik Tryz.prog 22 = some (none, 1, false) := by kernel_rfl
@[go_sem] theorem se22 : se Tryz.prog 22 = some (3, 1, 8) := by kernel_rfl
@[go_sem] theorem kd23 : kd Tryz.prog 23 = .slice := by kernel_rfl
@[go_sem] theorem tk23 : tk Tryz.prog 23 = some (false, 1) := by kernel_rfl
@[go_sem] theorem zr23 : zr Tryz.prog 23 = some (.slice none 0 0) := by kernel_rfl
@[go_sem] theorem ik23 : ik Tryz.prog 23 = some (none, 3, true) := by kernel_rfl
@[go_sem] theorem se23 : se Tryz.prog 23 = some (40, 3, 40) := by kernel_rfl
@[go_sem] theorem kd24 : kd Tryz.prog 24 = .slice := by kernel_rfl
@[go_sem] theorem tk24 : tk Tryz.prog 24 = some (false, 1) := by kernel_rfl
@[go_sem] theorem zr24 : zr Tryz.prog 24 = some (.slice none 0 0) := by kernel_rfl
@[go_sem] theorem ik24 : ik Tryz.prog 24 = some (none, 1, false) := by kernel_rfl
@[go_sem] theorem se24 : se Tryz.prog 24 = some (46, 1, 24) := by kernel_rfl
@[go_sem] theorem kd27 : kd Tryz.prog 27 = .pointer := by kernel_rfl
@[go_sem] theorem tk27 : tk Tryz.prog 27 = some (false, 1) := by kernel_rfl
@[go_sem] theorem zr27 : zr Tryz.prog 27 = some (.pointer none) := by kernel_rfl
@[go_sem] theorem kd29 : kd Tryz.prog 29 = .slice := by kernel_rfl
@[go_sem] theorem tk29 : tk Tryz.prog 29 = some (false, 1) := by kernel_rfl
@[go_sem] theorem zr29 : zr Tryz.prog 29 = some (.slice none 0 0) := by kernel_rfl
@[go_sem] theorem ik29 : ik Tryz.prog 29 = some (none, 1, false) := by kernel_rfl
@[go_sem] theorem se29 : se Tryz.prog 29 = some (33, 1, 24) := by kernel_rfl
@[go_sem] theorem kd31 : kd Tryz.prog 31 = .struct := by kernel_rfl
@[go_sem] theorem tk31 : tk Tryz.prog 31 = some (true, 1) := by kernel_rfl
@[go_sem] theorem zr31 : zr Tryz.prog 31 = some (.agg #[.slice none 0 0]) := by kernel_rfl
@[go_sem] theorem bp31 : bp Tryz.prog 31 = some (#[.slice none 0 0], .inl [(0, 1)]) := by kernel_rfl
@[go_sem] theorem kd32 : kd Tryz.prog 32 = .slice := by kernel_rfl
@[go_sem] theorem tk32 : tk Tryz.prog 32 = some (false, 1) := by kernel_rfl
@[go_sem] theorem zr32 : zr Tryz.prog 32 = some (.slice none 0 0) := by kernel_rfl
@[go_sem] theorem ik32 : ik Tryz.prog 32 = some (none, 1, false) := by kernel_rfl
@[go_sem] theorem se32 : se Tryz.prog 32 = some (23, 1, 24) := by kernel_rfl
@[go_sem] theorem kd33 : kd Tryz.prog 33 = .slice := by kernel_rfl
@[go_sem] theorem tk33 : tk Tryz.prog 33 = some (false, 1) := by kernel_rfl
@[go_sem] theorem zr33 : zr Tryz.prog 33 = some (.slice none 0 0) := by kernel_rfl
@[go_sem] theorem ik33 : ik Tryz.prog 33 = some (none, 1, false) := by kernel_rfl
@[go_sem] theorem se33 : se Tryz.prog 33 = some (9, 1, 16) := by kernel_rfl
@[go_sem] theorem kd35 : kd Tryz.prog 35 = .struct := by kernel_rfl
@[go_sem] theorem tk35 : tk Tryz.prog 35 = some (true, 4) := by kernel_rfl
@[go_sem] theorem zr35 : zr Tryz.prog 35 = some (.agg #[.slice none 0 0, .slice none 0 0, .slice none 0 0, .int .i64 0]) := by kernel_rfl
@[go_sem] theorem bp35 : bp Tryz.prog 35 = some (#[.slice none 0 0, .slice none 0 0, .slice none 0 0, .int .i64 0], .inl [(0, 1), (1, 1), (2, 1), (3, 1)]) := by kernel_rfl
@[go_sem] theorem kd37 : kd Tryz.prog 37 = .struct := by kernel_rfl
@[go_sem] theorem tk37 : tk Tryz.prog 37 = some (true, 8) := by kernel_rfl
@[go_sem] theorem zr37 : zr Tryz.prog 37 = some (.agg #[.slice none 0 0, .int .i64 0, .slice none 0 0, .slice none 0 0, .slice none 0 0, .slice none 0 0, .slice none 0 0, .int .i64 0]) := by kernel_rfl
@[go_sem] theorem bp37 : bp Tryz.prog 37 = some (#[.slice none 0 0, .int .i64 0, .slice none 0 0, .slice none 0 0, .slice none 0 0, .slice none 0 0, .slice none 0 0, .int .i64 0], .inl [(0, 1), (1, 1), (2, 1), (3, 1), (4, 4)]) := by kernel_rfl
@[go_sem] theorem kd40 : kd Tryz.prog 40 = .struct := by kernel_rfl
@[go_sem] theorem tk40 : tk Tryz.prog 40 = some (true, 3) := by kernel_rfl
@[go_sem] theorem zr40 : zr Tryz.prog 40 = some (.agg #[.string ⟨#[]⟩, .string ⟨#[]⟩, .bool false]) := by kernel_rfl
@[go_sem] theorem bp40 : bp Tryz.prog 40 = some (#[.string ⟨#[]⟩, .string ⟨#[]⟩, .bool false], .inl [(0, 1), (1, 1), (2, 1)]) := by kernel_rfl
@[go_sem] theorem kd41 : kd Tryz.prog 41 = .func := by kernel_rfl
@[go_sem] theorem tk41 : tk Tryz.prog 41 = some (false, 1) := by kernel_rfl
@[go_sem] theorem zr41 : zr Tryz.prog 41 = some (.nilFunc) := by kernel_rfl
@[go_sem] theorem kd43 : kd Tryz.prog 43 = .pointer := by kernel_rfl
@[go_sem] theorem tk43 : tk Tryz.prog 43 = some (false, 1) := by kernel_rfl
@[go_sem] theorem zr43 : zr Tryz.prog 43 = some (.pointer none) := by kernel_rfl
@[go_sem] theorem kd45 : kd Tryz.prog 45 = .slice := by kernel_rfl
@[go_sem] theorem tk45 : tk Tryz.prog 45 = some (false, 1) := by kernel_rfl
@[go_sem] theorem zr45 : zr Tryz.prog 45 = some (.slice none 0 0) := by kernel_rfl
@[go_sem] theorem ik45 : ik Tryz.prog 45 = some (none, 1, false) := by kernel_rfl
@[go_sem] theorem se45 : se Tryz.prog 45 = some (50, 1, 8) := by kernel_rfl
@[go_sem] theorem kd46 : kd Tryz.prog 46 = .slice := by kernel_rfl
@[go_sem] theorem tk46 : tk Tryz.prog 46 = some (false, 1) := by kernel_rfl
@[go_sem] theorem zr46 : zr Tryz.prog 46 = some (.slice none 0 0) := by kernel_rfl
@[go_sem] theorem ik46 : ik Tryz.prog 46 = some (none, 5, true) := by kernel_rfl
@[go_sem] theorem se46 : se Tryz.prog 46 = some (48, 5, 56) := by kernel_rfl
@[go_sem] theorem kd48 : kd Tryz.prog 48 = .struct := by kernel_rfl
@[go_sem] theorem tk48 : tk Tryz.prog 48 = some (true, 5) := by kernel_rfl
@[go_sem] theorem zr48 : zr Tryz.prog 48 = some (.agg #[.int .i64 0, .int .i64 0, .string ⟨#[]⟩, .string ⟨#[]⟩, .bool false]) := by kernel_rfl
@[go_sem] theorem bp48 : bp Tryz.prog 48 = some (#[.int .i64 0, .int .i64 0, .string ⟨#[]⟩, .string ⟨#[]⟩, .bool false], .inl [(0, 1), (1, 1), (2, 1), (3, 1), (4, 1)]) := by kernel_rfl
@[go_sem] theorem kd50 : kd Tryz.prog 50 = .func := by kernel_rfl
@[go_sem] theorem tk50 : tk Tryz.prog 50 = some (false, 1) := by kernel_rfl
@[go_sem] theorem zr50 : zr Tryz.prog 50 = some (.nilFunc) := by kernel_rfl
@[go_sem] theorem kd52 : kd Tryz.prog 52 = .int .i64 := by kernel_rfl
@[go_sem] theorem tk52 : tk Tryz.prog 52 = some (false, 1) := by kernel_rfl
@[go_sem] theorem zr52 : zr Tryz.prog 52 = some (.int .i64 0) := by kernel_rfl
@[go_sem] theorem kd54 : kd Tryz.prog 54 = .struct := by kernel_rfl
@[go_sem] theorem tk54 : tk Tryz.prog 54 = some (true, 3) := by kernel_rfl
@[go_sem] theorem zr54 : zr Tryz.prog 54 = some (.agg #[.slice none 0 0, .int .i64 0, .int .i64 0]) := by kernel_rfl
@[go_sem] theorem kd56 : kd Tryz.prog 56 = .slice := by kernel_rfl
@[go_sem] theorem tk56 : tk Tryz.prog 56 = some (false, 1) := by kernel_rfl
@[go_sem] theorem zr56 : zr Tryz.prog 56 = some (.slice none 0 0) := by kernel_rfl
@[go_sem] theorem ik56 : ik Tryz.prog 56 = some (none, 15, true) := by kernel_rfl
@[go_sem] theorem se56 : se Tryz.prog 56 = some (69, 15, 152) := by kernel_rfl
@[go_sem] theorem kd62 : kd Tryz.prog 62 = .slice := by kernel_rfl
@[go_sem] theorem tk62 : tk Tryz.prog 62 = some (false, 1) := by kernel_rfl
@[go_sem] theorem zr62 : zr Tryz.prog 62 = some (.slice none 0 0) := by kernel_rfl
@[go_sem] theorem ik62 : ik Tryz.prog 62 = some (none, 1, false) := by kernel_rfl
@[go_sem] theorem se62 : se Tryz.prog 62 = some (52, 1, 8) := by kernel_rfl
@[go_sem] theorem kd64 : kd Tryz.prog 64 = .struct := by kernel_rfl
@[go_sem] theorem tk64 : tk Tryz.prog 64 = some (true, 6) := by kernel_rfl
@[go_sem] theorem zr64 : zr Tryz.prog 64 = some (.agg #[.int .i64 0, .int .i64 0, .int .i64 0, .string ⟨#[]⟩, .string ⟨#[]⟩, .bool false]) := by kernel_rfl
@[go_sem] theorem bp64 : bp Tryz.prog 64 = some (#[.int .i64 0, .int .i64 0, .int .i64 0, .string ⟨#[]⟩, .string ⟨#[]⟩, .bool false], .inl [(0, 1), (1, 1), (2, 1), (3, 3)]) := by kernel_rfl
@[go_sem] theorem kd65 : kd Tryz.prog 65 = .func := by kernel_rfl
@[go_sem] theorem tk65 : tk Tryz.prog 65 = some (false, 1) := by kernel_rfl
@[go_sem] theorem zr65 : zr Tryz.prog 65 = some (.nilFunc) := by kernel_rfl
@[go_sem] theorem kd69 : kd Tryz.prog 69 = .struct := by kernel_rfl
@[go_sem] theorem tk69 : tk Tryz.prog 69 = some (true, 15) := by kernel_rfl
@[go_sem] theorem zr69 : zr Tryz.prog 69 = some (.agg #[.int .i64 0, .int .i64 0, .int .i64 0, .int .i64 0, .string ⟨#[]⟩, .string ⟨#[]⟩, .bool false, .int .i64 0, .int .i64 0, .int .i64 0, .string ⟨#[]⟩, .string ⟨#[]⟩, .bool false, .int .i64 0, .int .i64 0]) := by kernel_rfl
@[go_sem] theorem bp69 : bp Tryz.prog 69 = some (#[.int .i64 0, .int .i64 0, .int .i64 0, .int .i64 0, .string ⟨#[]⟩, .string ⟨#[]⟩, .bool false, .int .i64 0, .int .i64 0, .int .i64 0, .string ⟨#[]⟩, .string ⟨#[]⟩, .bool false, .int .i64 0, .int .i64 0], .inl [(0, 1), (1, 1), (2, 5), (7, 6), (13, 1), (14, 1)]) := by kernel_rfl
@[go_sem] theorem kd71 : kd Tryz.prog 71 = .pointer := by kernel_rfl
@[go_sem] theorem tk71 : tk Tryz.prog 71 = some (false, 1) := by kernel_rfl
@[go_sem] theorem zr71 : zr Tryz.prog 71 = some (.pointer none) := by kernel_rfl
@[go_sem] theorem kd73 : kd Tryz.prog 73 = .pointer := by kernel_rfl
@[go_sem] theorem tk73 : tk Tryz.prog 73 = some (false, 1) := by kernel_rfl
@[go_sem] theorem zr73 : zr Tryz.prog 73 = some (.pointer none) := by kernel_rfl
@[go_sem] theorem kd77 : kd Tryz.prog 77 = .struct := by kernel_rfl
@[go_sem] theorem tk77 : tk Tryz.prog 77 = some (true, 2) := by kernel_rfl
@[go_sem] theorem zr77 : zr Tryz.prog 77 = some (.agg #[.pointer none, .int .i64 0]) := by kernel_rfl
@[go_sem] theorem bp77 : bp Tryz.prog 77 = some (#[.pointer none, .int .i64 0], .inl [(0, 1), (1, 1)]) := by kernel_rfl
@[go_sem] theorem kd78 : kd Tryz.prog 78 = .pointer := by kernel_rfl
@[go_sem] theorem tk78 : tk Tryz.prog 78 = some (false, 1) := by kernel_rfl
@[go_sem] theorem zr78 : zr Tryz.prog 78 = some (.pointer none) := by kernel_rfl
@[go_sem] theorem kd81 : kd Tryz.prog 81 = .struct := by kernel_rfl
@[go_sem] theorem tk81 : tk Tryz.prog 81 = some (true, 3) := by kernel_rfl
@[go_sem] theorem zr81 : zr Tryz.prog 81 = some (.agg #[.pointer none, .pointer none, .pointer none]) := by kernel_rfl
@[go_sem] theorem bp81 : bp Tryz.prog 81 = some (#[.pointer none, .pointer none, .pointer none], .inl [(0, 1), (1, 1), (2, 1)]) := by kernel_rfl
@[go_sem] theorem kd82 : kd Tryz.prog 82 = .pointer := by kernel_rfl
@[go_sem] theorem tk82 : tk Tryz.prog 82 = some (false, 1) := by kernel_rfl
@[go_sem] theorem zr82 : zr Tryz.prog 82 = some (.pointer none) := by kernel_rfl
@[go_sem] theorem kd83 : kd Tryz.prog 83 = .pointer := by kernel_rfl
@[go_sem] theorem tk83 : tk Tryz.prog 83 = some (false, 1) := by kernel_rfl
@[go_sem] theorem zr83 : zr Tryz.prog 83 = some (.pointer none) := by kernel_rfl
@[go_sem] theorem kd84 : kd Tryz.prog 84 = .array := by kernel_rfl
@[go_sem] theorem tk84 : tk Tryz.prog 84 = some (true, 4) := by kernel_rfl
@[go_sem] theorem zr84 : zr Tryz.prog 84 = some (.agg #[.pointer none, .pointer none, .pointer none, .pointer none]) := by kernel_rfl
@[go_sem] theorem ik84 : ik Tryz.prog 84 = some (some 4, 1, false) := by kernel_rfl
@[go_sem] theorem kd85 : kd Tryz.prog 85 = .slice := by kernel_rfl
@[go_sem] theorem tk85 : tk Tryz.prog 85 = some (false, 1) := by kernel_rfl
@[go_sem] theorem zr85 : zr Tryz.prog 85 = some (.slice none 0 0) := by kernel_rfl
@[go_sem] theorem ik85 : ik Tryz.prog 85 = some (none, 1, false) := by kernel_rfl
@[go_sem] theorem se85 : se Tryz.prog 85 = some (100, 1, 8) := by kernel_rfl
@[go_sem] theorem kd87 : kd Tryz.prog 87 = .struct := by kernel_rfl
@[go_sem] theorem tk87 : tk Tryz.prog 87 = some (true, 10) := by kernel_rfl
@[go_sem] theorem zr87 : zr Tryz.prog 87 = some (.agg #[.pointer none, .pointer none, .pointer none, .pointer none, .pointer none, .pointer none, .pointer none, .pointer none, .slice none 0 0, .int .i64 0]) := by kernel_rfl
@[go_sem] theorem bp87 : bp Tryz.prog 87 = some (#[.pointer none, .pointer none, .pointer none, .pointer none, .pointer none, .pointer none, .pointer none, .pointer none, .slice none 0 0, .int .i64 0], .inl [(0, 3), (3, 1), (4, 4), (8, 1), (9, 1)]) := by kernel_rfl
@[go_sem] theorem kd92 : kd Tryz.prog 92 = .struct := by kernel_rfl
@[go_sem] theorem tk92 : tk Tryz.prog 92 = some (true, 2) := by kernel_rfl
@[go_sem] theorem zr92 : zr Tryz.prog 92 = some (.agg #[.int .i64 0, .int .i64 0]) := by kernel_rfl
@[go_sem] theorem bp92 : bp Tryz.prog 92 = some (#[.int .i64 0, .int .i64 0], .inl [(0, 1), (1, 1)]) := by kernel_rfl
@[go_sem] theorem kd94 : kd Tryz.prog 94 = .pointer := by kernel_rfl
@[go_sem] theorem tk94 : tk Tryz.prog 94 = some (false, 1) := by kernel_rfl
@[go_sem] theorem zr94 : zr Tryz.prog 94 = some (.pointer none) := by kernel_rfl
@[go_sem] theorem kd99 : kd Tryz.prog 99 = .struct := by kernel_rfl
@[go_sem] theorem tk99 : tk Tryz.prog 99 = some (true, 3) := by kernel_rfl
@[go_sem] theorem zr99 : zr Tryz.prog 99 = some (.agg #[.slice none 0 0, .slice none 0 0, .int .i64 0]) := by kernel_rfl
@[go_sem] theorem bp99 : bp Tryz.prog 99 = some (#[.slice none 0 0, .slice none 0 0, .int .i64 0], .inl [(0, 2), (2, 1)]) := by kernel_rfl
@[go_sem] theorem kd100 : kd Tryz.prog 100 = .pointer := by kernel_rfl
@[go_sem] theorem tk100 : tk Tryz.prog 100 = some (false, 1) := by kernel_rfl
@[go_sem] theorem zr100 : zr Tryz.prog 100 = some (.pointer none) := by kernel_rfl
@[go_sem] theorem kd104 : kd Tryz.prog 104 = .map := by kernel_rfl
@[go_sem] theorem tk104 : tk Tryz.prog 104 = some (false, 1) := by kernel_rfl
@[go_sem] theorem zr104 : zr Tryz.prog 104 = some (.map none) := by kernel_rfl
@[go_sem] theorem mky104 : mky Tryz.prog 104 = some (.int .i64 0) := by kernel_rfl
@[go_sem] theorem um104 : Tryz.prog.underlying 104 = some (.map 3 3) := by kernel_rfl
@[simp] theorem uk3 : Tryz.prog.underlying 3 = some (.int .i64) := by kernel_rfl
@[go_sem] theorem kd106 : kd Tryz.prog 106 = .struct := by kernel_rfl
@[go_sem] theorem tk106 : tk Tryz.prog 106 = some (true, 3) := by kernel_rfl
@[go_sem] theorem zr106 : zr Tryz.prog 106 = some (.agg #[.slice none 0 0, .int .i64 0, .map none]) := by kernel_rfl
@[go_sem] theorem bp106 : bp Tryz.prog 106 = some (#[.slice none 0 0, .int .i64 0, .map none], .inl [(0, 1), (1, 1), (2, 1)]) := by kernel_rfl
@[go_sem] theorem kd110 : kd Tryz.prog 110 = .func := by kernel_rfl
@[go_sem] theorem tk110 : tk Tryz.prog 110 = some (false, 1) := by kernel_rfl
@[go_sem] theorem zr110 : zr Tryz.prog 110 = some (.nilFunc) := by kernel_rfl
@[go_sem] theorem kd111 : kd Tryz.prog 111 = .pointer := by kernel_rfl
@[go_sem] theorem tk111 : tk Tryz.prog 111 = some (false, 1) := by kernel_rfl
@[go_sem] theorem zr111 : zr Tryz.prog 111 = some (.pointer none) := by kernel_rfl
@[go_sem] theorem kd114 : kd Tryz.prog 114 = .struct := by kernel_rfl
@[go_sem] theorem tk114 : tk Tryz.prog 114 = some (true, 4) := by kernel_rfl
@[go_sem] theorem zr114 : zr Tryz.prog 114 = some (.agg #[.slice none 0 0, .int .i64 0, .int .i64 0, .slice none 0 0]) := by kernel_rfl
@[go_sem] theorem bp114 : bp Tryz.prog 114 = some (#[.slice none 0 0, .int .i64 0, .int .i64 0, .slice none 0 0], .inl [(0, 3), (3, 1)]) := by kernel_rfl
@[go_sem] theorem kd117 : kd Tryz.prog 117 = .func := by kernel_rfl
@[go_sem] theorem tk117 : tk Tryz.prog 117 = some (false, 1) := by kernel_rfl
@[go_sem] theorem zr117 : zr Tryz.prog 117 = some (.nilFunc) := by kernel_rfl
@[go_sem] theorem kd119 : kd Tryz.prog 119 = .pointer := by kernel_rfl
@[go_sem] theorem tk119 : tk Tryz.prog 119 = some (false, 1) := by kernel_rfl
@[go_sem] theorem zr119 : zr Tryz.prog 119 = some (.pointer none) := by kernel_rfl
@[go_sem] theorem kd120 : kd Tryz.prog 120 = .slice := by kernel_rfl
@[go_sem] theorem tk120 : tk Tryz.prog 120 = some (false, 1) := by kernel_rfl
@[go_sem] theorem zr120 : zr Tryz.prog 120 = some (.slice none 0 0) := by kernel_rfl
@[go_sem] theorem ik120 : ik Tryz.prog 120 = some (none, 1, false) := by kernel_rfl
@[go_sem] theorem se120 : se Tryz.prog 120 = some (4, 1, 1) := by kernel_rfl
@[go_sem] theorem kd122 : kd Tryz.prog 122 = .struct := by kernel_rfl
@[go_sem] theorem tk122 : tk Tryz.prog 122 = some (true, 3) := by kernel_rfl
@[go_sem] theorem zr122 : zr Tryz.prog 122 = some (.agg #[.slice none 0 0, .slice none 0 0, .slice none 0 0]) := by kernel_rfl
@[go_sem] theorem bp122 : bp Tryz.prog 122 = some (#[.slice none 0 0, .slice none 0 0, .slice none 0 0], .inl [(0, 1), (1, 1), (2, 1)]) := by kernel_rfl
@[go_sem] theorem kd124 : kd Tryz.prog 124 = .pointer := by kernel_rfl
@[go_sem] theorem tk124 : tk Tryz.prog 124 = some (false, 1) := by kernel_rfl
@[go_sem] theorem zr124 : zr Tryz.prog 124 = some (.pointer none) := by kernel_rfl
@[go_sem] theorem kd129 : kd Tryz.prog 129 = .func := by kernel_rfl
@[go_sem] theorem tk129 : tk Tryz.prog 129 = some (false, 1) := by kernel_rfl
@[go_sem] theorem zr129 : zr Tryz.prog 129 = some (.nilFunc) := by kernel_rfl
@[go_sem] theorem kd130 : kd Tryz.prog 130 = .array := by kernel_rfl
@[go_sem] theorem tk130 : tk Tryz.prog 130 = some (true, 3) := by kernel_rfl
@[go_sem] theorem zr130 : zr Tryz.prog 130 = some (.agg #[.slice none 0 0, .slice none 0 0, .slice none 0 0]) := by kernel_rfl
@[go_sem] theorem ik130 : ik Tryz.prog 130 = some (some 3, 1, false) := by kernel_rfl
@[go_sem] theorem kd132 : kd Tryz.prog 132 = .struct := by kernel_rfl
@[go_sem] theorem tk132 : tk Tryz.prog 132 = some (true, 5) := by kernel_rfl
@[go_sem] theorem zr132 : zr Tryz.prog 132 = some (.agg #[.int .i64 0, .slice none 0 0, .slice none 0 0, .slice none 0 0, .slice none 0 0]) := by kernel_rfl
@[go_sem] theorem bp132 : bp Tryz.prog 132 = some (#[.int .i64 0, .slice none 0 0, .slice none 0 0, .slice none 0 0, .slice none 0 0], .inl [(0, 1), (1, 1), (2, 3)]) := by kernel_rfl
@[go_sem] theorem kd133 : kd Tryz.prog 133 = .slice := by kernel_rfl
@[go_sem] theorem tk133 : tk Tryz.prog 133 = some (false, 1) := by kernel_rfl
@[go_sem] theorem zr133 : zr Tryz.prog 133 = some (.slice none 0 0) := by kernel_rfl
@[go_sem] theorem ik133 : ik Tryz.prog 133 = some (none, 4, true) := by kernel_rfl
@[go_sem] theorem se133 : se Tryz.prog 133 = some (140, 4, 32) := by kernel_rfl
@[go_sem] theorem kd135 : kd Tryz.prog 135 = .struct := by kernel_rfl
@[go_sem] theorem tk135 : tk Tryz.prog 135 = some (true, 3) := by kernel_rfl
@[go_sem] theorem zr135 : zr Tryz.prog 135 = some (.agg #[.slice none 0 0, .slice none 0 0, .int .i64 0]) := by kernel_rfl
@[go_sem] theorem bp135 : bp Tryz.prog 135 = some (#[.slice none 0 0, .slice none 0 0, .int .i64 0], .inl [(0, 1), (1, 1), (2, 1)]) := by kernel_rfl
@[go_sem] theorem kd136 : kd Tryz.prog 136 = .slice := by kernel_rfl
@[go_sem] theorem tk136 : tk Tryz.prog 136 = some (false, 1) := by kernel_rfl
@[go_sem] theorem zr136 : zr Tryz.prog 136 = some (.slice none 0 0) := by kernel_rfl
@[go_sem] theorem ik136 : ik Tryz.prog 136 = some (none, 3, true) := by kernel_rfl
@[go_sem] theorem se136 : se Tryz.prog 136 = some (168, 3, 24) := by kernel_rfl
@[go_sem] theorem kd138 : kd Tryz.prog 138 = .struct := by kernel_rfl
@[go_sem] theorem tk138 : tk Tryz.prog 138 = some (true, 1) := by kernel_rfl
@[go_sem] theorem zr138 : zr Tryz.prog 138 = some (.agg #[.slice none 0 0]) := by kernel_rfl
@[go_sem] theorem bp138 : bp Tryz.prog 138 = some (#[.slice none 0 0], .inl [(0, 1)]) := by kernel_rfl
@[go_sem] theorem kd140 : kd Tryz.prog 140 = .struct := by kernel_rfl
@[go_sem] theorem tk140 : tk Tryz.prog 140 = some (true, 4) := by kernel_rfl
@[go_sem] theorem zr140 : zr Tryz.prog 140 = some (.agg #[.pointer none, .int .i64 0, .int .i64 0, .bool false]) := by kernel_rfl
@[go_sem] theorem bp140 : bp Tryz.prog 140 = some (#[.pointer none, .int .i64 0, .int .i64 0, .bool false], .inl [(0, 2), (2, 1), (3, 1)]) := by kernel_rfl
@[go_sem] theorem kd141 : kd Tryz.prog 141 = .pointer := by kernel_rfl
@[go_sem] theorem tk141 : tk Tryz.prog 141 = some (false, 1) := by kernel_rfl
@[go_sem] theorem zr141 : zr Tryz.prog 141 = some (.pointer none) := by kernel_rfl
@[go_sem] theorem kd144 : kd Tryz.prog 144 = .struct := by kernel_rfl
@[go_sem] theorem tk144 : tk Tryz.prog 144 = some (true, 3) := by kernel_rfl
@[go_sem] theorem zr144 : zr Tryz.prog 144 = some (.agg #[.int .i64 0, .int .i64 0, .int .i64 0]) := by kernel_rfl
@[go_sem] theorem bp144 : bp Tryz.prog 144 = some (#[.int .i64 0, .int .i64 0, .int .i64 0], .inl [(0, 2), (2, 1)]) := by kernel_rfl
@[go_sem] theorem kd146 : kd Tryz.prog 146 = .struct := by kernel_rfl
@[go_sem] theorem tk146 : tk Tryz.prog 146 = some (true, 2) := by kernel_rfl
@[go_sem] theorem zr146 : zr Tryz.prog 146 = some (.agg #[.pointer none, .int .i64 0]) := by kernel_rfl
@[go_sem] theorem bp146 : bp Tryz.prog 146 = some (#[.pointer none, .int .i64 0], .inl [(0, 1), (1, 1)]) := by kernel_rfl
@[go_sem] theorem kd147 : kd Tryz.prog 147 = .slice := by kernel_rfl
@[go_sem] theorem tk147 : tk Tryz.prog 147 = some (false, 1) := by kernel_rfl
@[go_sem] theorem zr147 : zr Tryz.prog 147 = some (.slice none 0 0) := by kernel_rfl
@[go_sem] theorem ik147 : ik Tryz.prog 147 = some (none, 4, true) := by kernel_rfl
@[go_sem] theorem se147 : se Tryz.prog 147 = some (151, 4, 48) := by kernel_rfl
@[go_sem] theorem kd149 : kd Tryz.prog 149 = .struct := by kernel_rfl
@[go_sem] theorem tk149 : tk Tryz.prog 149 = some (true, 4) := by kernel_rfl
@[go_sem] theorem zr149 : zr Tryz.prog 149 = some (.agg #[.slice none 0 0, .int .i64 0, .int .i64 0, .int .i64 0]) := by kernel_rfl
@[go_sem] theorem bp149 : bp Tryz.prog 149 = some (#[.slice none 0 0, .int .i64 0, .int .i64 0, .int .i64 0], .inl [(0, 1), (1, 1), (2, 1), (3, 1)]) := by kernel_rfl
@[go_sem] theorem kd151 : kd Tryz.prog 151 = .struct := by kernel_rfl
@[go_sem] theorem tk151 : tk Tryz.prog 151 = some (true, 4) := by kernel_rfl
@[go_sem] theorem zr151 : zr Tryz.prog 151 = some (.agg #[.string ⟨#[]⟩, .string ⟨#[]⟩, .bool false, .int .i64 0]) := by kernel_rfl
@[go_sem] theorem bp151 : bp Tryz.prog 151 = some (#[.string ⟨#[]⟩, .string ⟨#[]⟩, .bool false, .int .i64 0], .inl [(0, 3), (3, 1)]) := by kernel_rfl
@[go_sem] theorem kd153 : kd Tryz.prog 153 = .pointer := by kernel_rfl
@[go_sem] theorem tk153 : tk Tryz.prog 153 = some (false, 1) := by kernel_rfl
@[go_sem] theorem zr153 : zr Tryz.prog 153 = some (.pointer none) := by kernel_rfl
@[go_sem] theorem kd159 : kd Tryz.prog 159 = .func := by kernel_rfl
@[go_sem] theorem tk159 : tk Tryz.prog 159 = some (false, 1) := by kernel_rfl
@[go_sem] theorem zr159 : zr Tryz.prog 159 = some (.nilFunc) := by kernel_rfl
@[go_sem] theorem kd166 : kd Tryz.prog 166 = .struct := by kernel_rfl
@[go_sem] theorem tk166 : tk Tryz.prog 166 = some (true, 2) := by kernel_rfl
@[go_sem] theorem zr166 : zr Tryz.prog 166 = some (.agg #[.int .i64 0, .int .i64 0]) := by kernel_rfl
@[go_sem] theorem kd168 : kd Tryz.prog 168 = .struct := by kernel_rfl
@[go_sem] theorem tk168 : tk Tryz.prog 168 = some (true, 3) := by kernel_rfl
@[go_sem] theorem zr168 : zr Tryz.prog 168 = some (.agg #[.int .i64 0, .int .i64 0, .int .i64 0]) := by kernel_rfl
@[go_sem] theorem kd185 : kd Tryz.prog 185 = .pointer := by kernel_rfl
@[go_sem] theorem tk185 : tk Tryz.prog 185 = some (false, 1) := by kernel_rfl
@[go_sem] theorem zr185 : zr Tryz.prog 185 = some (.pointer none) := by kernel_rfl
@[go_sem] theorem fo31_0 : fo Tryz.prog 31 0 = some 0 := by kernel_rfl
@[go_sem] theorem fo35_0 : fo Tryz.prog 35 0 = some 0 := by kernel_rfl
@[go_sem] theorem fo35_1 : fo Tryz.prog 35 1 = some 1 := by kernel_rfl
@[go_sem] theorem fo35_2 : fo Tryz.prog 35 2 = some 2 := by kernel_rfl
@[go_sem] theorem fo35_3 : fo Tryz.prog 35 3 = some 3 := by kernel_rfl
@[go_sem] theorem fo37_0 : fo Tryz.prog 37 0 = some 0 := by kernel_rfl
@[go_sem] theorem fo37_1 : fo Tryz.prog 37 1 = some 1 := by kernel_rfl
@[go_sem] theorem fo37_2 : fo Tryz.prog 37 2 = some 2 := by kernel_rfl
@[go_sem] theorem fo37_3 : fo Tryz.prog 37 3 = some 3 := by kernel_rfl
@[go_sem] theorem fo37_4 : fo Tryz.prog 37 4 = some 4 := by kernel_rfl
@[go_sem] theorem fo40_0 : fo Tryz.prog 40 0 = some 0 := by kernel_rfl
@[go_sem] theorem fo40_1 : fo Tryz.prog 40 1 = some 1 := by kernel_rfl
@[go_sem] theorem fo40_2 : fo Tryz.prog 40 2 = some 2 := by kernel_rfl
@[go_sem] theorem fo48_0 : fo Tryz.prog 48 0 = some 0 := by kernel_rfl
@[go_sem] theorem fo48_1 : fo Tryz.prog 48 1 = some 1 := by kernel_rfl
@[go_sem] theorem fo48_2 : fo Tryz.prog 48 2 = some 2 := by kernel_rfl
@[go_sem] theorem fo48_3 : fo Tryz.prog 48 3 = some 3 := by kernel_rfl
@[go_sem] theorem fo48_4 : fo Tryz.prog 48 4 = some 4 := by kernel_rfl
@[go_sem] theorem fo54_0 : fo Tryz.prog 54 0 = some 0 := by kernel_rfl
@[go_sem] theorem fo54_1 : fo Tryz.prog 54 1 = some 1 := by kernel_rfl
@[go_sem] theorem fo54_2 : fo Tryz.prog 54 2 = some 2 := by kernel_rfl
@[go_sem] theorem fo64_0 : fo Tryz.prog 64 0 = some 0 := by kernel_rfl
@[go_sem] theorem fo64_1 : fo Tryz.prog 64 1 = some 1 := by kernel_rfl
@[go_sem] theorem fo64_2 : fo Tryz.prog 64 2 = some 2 := by kernel_rfl
@[go_sem] theorem fo69_0 : fo Tryz.prog 69 0 = some 0 := by kernel_rfl
@[go_sem] theorem fo69_1 : fo Tryz.prog 69 1 = some 1 := by kernel_rfl
@[go_sem] theorem fo69_2 : fo Tryz.prog 69 2 = some 2 := by kernel_rfl
@[go_sem] theorem fo69_3 : fo Tryz.prog 69 3 = some 7 := by kernel_rfl
@[go_sem] theorem fo69_4 : fo Tryz.prog 69 4 = some 13 := by kernel_rfl
@[go_sem] theorem fo69_5 : fo Tryz.prog 69 5 = some 14 := by kernel_rfl
@[go_sem] theorem fo81_0 : fo Tryz.prog 81 0 = some 0 := by kernel_rfl
@[go_sem] theorem fo81_1 : fo Tryz.prog 81 1 = some 1 := by kernel_rfl
@[go_sem] theorem fo81_2 : fo Tryz.prog 81 2 = some 2 := by kernel_rfl
@[go_sem] theorem fo87_0 : fo Tryz.prog 87 0 = some 0 := by kernel_rfl
@[go_sem] theorem fo87_1 : fo Tryz.prog 87 1 = some 3 := by kernel_rfl
@[go_sem] theorem fo87_2 : fo Tryz.prog 87 2 = some 4 := by kernel_rfl
@[go_sem] theorem fo87_3 : fo Tryz.prog 87 3 = some 8 := by kernel_rfl
@[go_sem] theorem fo87_4 : fo Tryz.prog 87 4 = some 9 := by kernel_rfl
@[go_sem] theorem fo106_0 : fo Tryz.prog 106 0 = some 0 := by kernel_rfl
@[go_sem] theorem fo106_1 : fo Tryz.prog 106 1 = some 1 := by kernel_rfl
@[go_sem] theorem fo106_2 : fo Tryz.prog 106 2 = some 2 := by kernel_rfl
@[go_sem] theorem fo114_0 : fo Tryz.prog 114 0 = some 0 := by kernel_rfl
@[go_sem] theorem fo114_1 : fo Tryz.prog 114 1 = some 3 := by kernel_rfl
@[go_sem] theorem fo122_0 : fo Tryz.prog 122 0 = some 0 := by kernel_rfl
@[go_sem] theorem fo122_1 : fo Tryz.prog 122 1 = some 1 := by kernel_rfl
@[go_sem] theorem fo122_2 : fo Tryz.prog 122 2 = some 2 := by kernel_rfl
@[go_sem] theorem fo132_0 : fo Tryz.prog 132 0 = some 0 := by kernel_rfl
@[go_sem] theorem fo132_1 : fo Tryz.prog 132 1 = some 1 := by kernel_rfl
@[go_sem] theorem fo132_2 : fo Tryz.prog 132 2 = some 2 := by kernel_rfl
@[go_sem] theorem fo135_0 : fo Tryz.prog 135 0 = some 0 := by kernel_rfl
@[go_sem] theorem fo135_1 : fo Tryz.prog 135 1 = some 1 := by kernel_rfl
@[go_sem] theorem fo135_2 : fo Tryz.prog 135 2 = some 2 := by kernel_rfl
@[go_sem] theorem fo138_0 : fo Tryz.prog 138 0 = some 0 := by kernel_rfl
@[go_sem] theorem fo140_0 : fo Tryz.prog 140 0 = some 0 := by kernel_rfl
@[go_sem] theorem fo140_1 : fo Tryz.prog 140 1 = some 2 := by kernel_rfl
@[go_sem] theorem fo140_2 : fo Tryz.prog 140 2 = some 3 := by kernel_rfl
@[go_sem] theorem fo149_0 : fo Tryz.prog 149 0 = some 0 := by kernel_rfl
@[go_sem] theorem fo149_1 : fo Tryz.prog 149 1 = some 1 := by kernel_rfl
@[go_sem] theorem fo149_2 : fo Tryz.prog 149 2 = some 2 := by kernel_rfl
@[go_sem] theorem fo149_3 : fo Tryz.prog 149 3 = some 3 := by kernel_rfl
@[go_sem] theorem fo151_0 : fo Tryz.prog 151 0 = some 0 := by kernel_rfl
@[go_sem] theorem fo151_1 : fo Tryz.prog 151 1 = some 3 := by kernel_rfl
@[go_sem] theorem fo166_0 : fo Tryz.prog 166 0 = some 0 := by kernel_rfl
@[go_sem] theorem fo166_1 : fo Tryz.prog 166 1 = some 1 := by kernel_rfl
@[go_sem] theorem fo168_0 : fo Tryz.prog 168 0 = some 0 := by kernel_rfl
@[go_sem] theorem fo168_1 : fo Tryz.prog 168 1 = some 2 := by kernel_rfl
noncomputable def b3 : Code := Tryz.f3.body.getD .skip
theorem is3 : FnIs Tryz.prog 3 206 b3 #[ResultVar.tmp 12] := ⟨mix, ⟨Tryz.f3, Tryz.func3, rfl, rfl, rfl, by kernel_rfl⟩, by kernel_rfl⟩
noncomputable def b4 : Code := Tryz.f4.body.getD .skip
theorem is4 : FnIs Tryz.prog 4 70 b4 #[ResultVar.tmp 4] := ⟨mix, ⟨Tryz.f4, Tryz.func4, rfl, rfl, rfl, by kernel_rfl⟩, by kernel_rfl⟩
noncomputable def b5 : Code := Tryz.f5.body.getD .skip
theorem is5 : FnIs Tryz.prog 5 56 b5 #[ResultVar.tmp 0] := ⟨mix, ⟨Tryz.f5, Tryz.func5, rfl, rfl, rfl, by kernel_rfl⟩, by kernel_rfl⟩
noncomputable def b6 : Code := Tryz.f6.body.getD .skip
theorem is6 : FnIs Tryz.prog 6 39 b6 #[ResultVar.tmp 6] := ⟨mix, ⟨Tryz.f6, Tryz.func6, rfl, rfl, rfl, by kernel_rfl⟩, by kernel_rfl⟩
noncomputable def b7 : Code := Tryz.f7.body.getD .skip
theorem is7 : FnIs Tryz.prog 7 66 b7 #[ResultVar.tmp 4] := ⟨mix, ⟨Tryz.f7, Tryz.func7, rfl, rfl, rfl, by kernel_rfl⟩, by kernel_rfl⟩
noncomputable def b8 : Code := Tryz.f8.body.getD .skip
theorem is8 : FnIs Tryz.prog 8 77 b8 #[ResultVar.cell 8 37] := ⟨mix, ⟨Tryz.f8, Tryz.func8, rfl, rfl, rfl, by kernel_rfl⟩, by kernel_rfl⟩
noncomputable def b9 : Code := Tryz.f9.body.getD .skip
theorem is9 : FnIs Tryz.prog 9 14 b9 #[ResultVar.tmp 4] := ⟨mix, ⟨Tryz.f9, Tryz.func9, rfl, rfl, rfl, by kernel_rfl⟩, by kernel_rfl⟩
noncomputable def b10 : Code := Tryz.f10.body.getD .skip
theorem is10 : FnIs Tryz.prog 10 12 b10 #[ResultVar.tmp 6] := ⟨mix, ⟨Tryz.f10, Tryz.func10, rfl, rfl, rfl, by kernel_rfl⟩, by kernel_rfl⟩
noncomputable def b11 : Code := Tryz.f11.body.getD .skip
theorem is11 : FnIs Tryz.prog 11 3 b11 #[ResultVar.tmp 0] := ⟨mix, ⟨Tryz.f11, Tryz.func11, rfl, rfl, rfl, by kernel_rfl⟩, by kernel_rfl⟩
noncomputable def b12 : Code := Tryz.f12.body.getD .skip
theorem is12 : FnIs Tryz.prog 12 18 b12 #[ResultVar.tmp 8] := ⟨mix, ⟨Tryz.f12, Tryz.func12, rfl, rfl, rfl, by kernel_rfl⟩, by kernel_rfl⟩
noncomputable def b13 : Code := Tryz.f13.body.getD .skip
theorem is13 : FnIs Tryz.prog 13 40 b13 #[ResultVar.cell 4 54] := ⟨mix, ⟨Tryz.f13, Tryz.func13, rfl, rfl, rfl, by kernel_rfl⟩, by kernel_rfl⟩
noncomputable def b14 : Code := Tryz.f14.body.getD .skip
theorem is14 : FnIs Tryz.prog 14 17 b14 #[ResultVar.tmp 2, ResultVar.tmp 3] := ⟨mix, ⟨Tryz.f14, Tryz.func14, rfl, rfl, rfl, by kernel_rfl⟩, by kernel_rfl⟩
noncomputable def b15 : Code := Tryz.f15.body.getD .skip
theorem is15 : FnIs Tryz.prog 15 18 b15 #[ResultVar.tmp 4] := ⟨mix, ⟨Tryz.f15, Tryz.func15, rfl, rfl, rfl, by kernel_rfl⟩, by kernel_rfl⟩
noncomputable def b16 : Code := Tryz.f16.body.getD .skip
theorem is16 : FnIs Tryz.prog 16 37 b16 #[ResultVar.tmp 2] := ⟨mix, ⟨Tryz.f16, Tryz.func16, rfl, rfl, rfl, by kernel_rfl⟩, by kernel_rfl⟩
noncomputable def b17 : Code := Tryz.f17.body.getD .skip
theorem is17 : FnIs Tryz.prog 17 9 b17 #[ResultVar.tmp 2] := ⟨mix, ⟨Tryz.f17, Tryz.func17, rfl, rfl, rfl, by kernel_rfl⟩, by kernel_rfl⟩
noncomputable def b18 : Code := Tryz.f18.body.getD .skip
theorem is18 : FnIs Tryz.prog 18 24 b18 #[ResultVar.tmp 2] := ⟨mix, ⟨Tryz.f18, Tryz.func18, rfl, rfl, rfl, by kernel_rfl⟩, by kernel_rfl⟩
noncomputable def b19 : Code := Tryz.f19.body.getD .skip
theorem is19 : FnIs Tryz.prog 19 9 b19 #[ResultVar.tmp 3] := ⟨mix, ⟨Tryz.f19, Tryz.func19, rfl, rfl, rfl, by kernel_rfl⟩, by kernel_rfl⟩
noncomputable def b20 : Code := Tryz.f20.body.getD .skip
theorem is20 : FnIs Tryz.prog 20 14 b20 #[ResultVar.tmp 8] := ⟨mix, ⟨Tryz.f20, Tryz.func20, rfl, rfl, rfl, by kernel_rfl⟩, by kernel_rfl⟩
noncomputable def b21 : Code := Tryz.f21.body.getD .skip
theorem is21 : FnIs Tryz.prog 21 14 b21 #[ResultVar.tmp 8] := ⟨mix, ⟨Tryz.f21, Tryz.func21, rfl, rfl, rfl, by kernel_rfl⟩, by kernel_rfl⟩
noncomputable def b22 : Code := Tryz.f22.body.getD .skip
theorem is22 : FnIs Tryz.prog 22 32 b22 #[ResultVar.tmp 4] := ⟨mix, ⟨Tryz.f22, Tryz.func22, rfl, rfl, rfl, by kernel_rfl⟩, by kernel_rfl⟩
noncomputable def b23 : Code := Tryz.f23.body.getD .skip
theorem is23 : FnIs Tryz.prog 23 22 b23 #[ResultVar.tmp 2] := ⟨mix, ⟨Tryz.f23, Tryz.func23, rfl, rfl, rfl, by kernel_rfl⟩, by kernel_rfl⟩
noncomputable def b24 : Code := Tryz.f24.body.getD .skip
theorem is24 : FnIs Tryz.prog 24 8 b24 #[ResultVar.tmp 2] := ⟨mix, ⟨Tryz.f24, Tryz.func24, rfl, rfl, rfl, by kernel_rfl⟩, by kernel_rfl⟩
noncomputable def b25 : Code := Tryz.f25.body.getD .skip
theorem is25 : FnIs Tryz.prog 25 15 b25 #[ResultVar.tmp 2] := ⟨mix, ⟨Tryz.f25, Tryz.func25, rfl, rfl, rfl, by kernel_rfl⟩, by kernel_rfl⟩
noncomputable def b26 : Code := Tryz.f26.body.getD .skip
theorem is26 : FnIs Tryz.prog 26 85 b26 #[ResultVar.tmp 4, ResultVar.tmp 5, ResultVar.tmp 6] := ⟨mix, ⟨Tryz.f26, Tryz.func26, rfl, rfl, rfl, by kernel_rfl⟩, by kernel_rfl⟩
noncomputable def b27 : Code := Tryz.f27.body.getD .skip
theorem is27 : FnIs Tryz.prog 27 6 b27 #[ResultVar.tmp 2] := ⟨mix, ⟨Tryz.f27, Tryz.func27, rfl, rfl, rfl, by kernel_rfl⟩, by kernel_rfl⟩
noncomputable def b28 : Code := Tryz.f28.body.getD .skip
theorem is28 : FnIs Tryz.prog 28 6 b28 #[ResultVar.tmp 2] := ⟨mix, ⟨Tryz.f28, Tryz.func28, rfl, rfl, rfl, by kernel_rfl⟩, by kernel_rfl⟩
noncomputable def b29 : Code := Tryz.f29.body.getD .skip
theorem is29 : FnIs Tryz.prog 29 30 b29 #[ResultVar.tmp 2] := ⟨mix, ⟨Tryz.f29, Tryz.func29, rfl, rfl, rfl, by kernel_rfl⟩, by kernel_rfl⟩
noncomputable def b30 : Code := Tryz.f30.body.getD .skip
theorem is30 : FnIs Tryz.prog 30 21 b30 #[ResultVar.cell 4 37] := ⟨mix, ⟨Tryz.f30, Tryz.func30, rfl, rfl, rfl, by kernel_rfl⟩, by kernel_rfl⟩
noncomputable def b31 : Code := Tryz.f31.body.getD .skip
theorem is31 : FnIs Tryz.prog 31 28 b31 #[ResultVar.tmp 4] := ⟨mix, ⟨Tryz.f31, Tryz.func31, rfl, rfl, rfl, by kernel_rfl⟩, by kernel_rfl⟩
noncomputable def b32 : Code := Tryz.f32.body.getD .skip
theorem is32 : FnIs Tryz.prog 32 55 b32 #[ResultVar.tmp 4] := ⟨mix, ⟨Tryz.f32, Tryz.func32, rfl, rfl, rfl, by kernel_rfl⟩, by kernel_rfl⟩
noncomputable def b33 : Code := Tryz.f33.body.getD .skip
theorem is33 : FnIs Tryz.prog 33 18 b33 #[ResultVar.tmp 7] := ⟨mix, ⟨Tryz.f33, Tryz.func33, rfl, rfl, rfl, by kernel_rfl⟩, by kernel_rfl⟩
noncomputable def b34 : Code := Tryz.f34.body.getD .skip
theorem is34 : FnIs Tryz.prog 34 60 b34 #[ResultVar.tmp 6] := ⟨mix, ⟨Tryz.f34, Tryz.func34, rfl, rfl, rfl, by kernel_rfl⟩, by kernel_rfl⟩
noncomputable def b35 : Code := Tryz.f35.body.getD .skip
theorem is35 : FnIs Tryz.prog 35 6 b35 #[ResultVar.tmp 4] := ⟨mix, ⟨Tryz.f35, Tryz.func35, rfl, rfl, rfl, by kernel_rfl⟩, by kernel_rfl⟩
noncomputable def b36 : Code := Tryz.f36.body.getD .skip
theorem is36 : FnIs Tryz.prog 36 10 b36 #[] := ⟨mix, ⟨Tryz.f36, Tryz.func36, rfl, rfl, rfl, by kernel_rfl⟩, by kernel_rfl⟩
noncomputable def b37 : Code := Tryz.f37.body.getD .skip
theorem is37 : FnIs Tryz.prog 37 53 b37 #[ResultVar.tmp 6] := ⟨mix, ⟨Tryz.f37, Tryz.func37, rfl, rfl, rfl, by kernel_rfl⟩, by kernel_rfl⟩
noncomputable def b38 : Code := Tryz.f38.body.getD .skip
theorem is38 : FnIs Tryz.prog 38 26 b38 #[ResultVar.tmp 4] := ⟨mix, ⟨Tryz.f38, Tryz.func38, rfl, rfl, rfl, by kernel_rfl⟩, by kernel_rfl⟩
noncomputable def b39 : Code := Tryz.f39.body.getD .skip
theorem is39 : FnIs Tryz.prog 39 8 b39 #[ResultVar.tmp 2] := ⟨mix, ⟨Tryz.f39, Tryz.func39, rfl, rfl, rfl, by kernel_rfl⟩, by kernel_rfl⟩
noncomputable def b40 : Code := Tryz.f40.body.getD .skip
theorem is40 : FnIs Tryz.prog 40 14 b40 #[ResultVar.tmp 2] := ⟨mix, ⟨Tryz.f40, Tryz.func40, rfl, rfl, rfl, by kernel_rfl⟩, by kernel_rfl⟩
noncomputable def b41 : Code := Tryz.f41.body.getD .skip
theorem is41 : FnIs Tryz.prog 41 69 b41 #[ResultVar.tmp 4] := ⟨mix, ⟨Tryz.f41, Tryz.func41, rfl, rfl, rfl, by kernel_rfl⟩, by kernel_rfl⟩
noncomputable def b42 : Code := Tryz.f42.body.getD .skip
theorem is42 : FnIs Tryz.prog 42 8 b42 #[ResultVar.tmp 2] := ⟨mix, ⟨Tryz.f42, Tryz.func42, rfl, rfl, rfl, by kernel_rfl⟩, by kernel_rfl⟩
noncomputable def b43 : Code := Tryz.f43.body.getD .skip
theorem is43 : FnIs Tryz.prog 43 20 b43 #[ResultVar.tmp 2] := ⟨mix, ⟨Tryz.f43, Tryz.func43, rfl, rfl, rfl, by kernel_rfl⟩, by kernel_rfl⟩
noncomputable def b44 : Code := Tryz.f44.body.getD .skip
theorem is44 : FnIs Tryz.prog 44 8 b44 #[ResultVar.tmp 2] := ⟨mix, ⟨Tryz.f44, Tryz.func44, rfl, rfl, rfl, by kernel_rfl⟩, by kernel_rfl⟩
noncomputable def b45 : Code := Tryz.f45.body.getD .skip
theorem is45 : FnIs Tryz.prog 45 9 b45 #[ResultVar.tmp 4] := ⟨mix, ⟨Tryz.f45, Tryz.func45, rfl, rfl, rfl, by kernel_rfl⟩, by kernel_rfl⟩
noncomputable def b46 : Code := Tryz.f46.body.getD .skip
theorem is46 : FnIs Tryz.prog 46 6 b46 #[ResultVar.tmp 2] := ⟨mix, ⟨Tryz.f46, Tryz.func46, rfl, rfl, rfl, by kernel_rfl⟩, by kernel_rfl⟩
noncomputable def b47 : Code := Tryz.f47.body.getD .skip
theorem is47 : FnIs Tryz.prog 47 131 b47 #[ResultVar.tmp 2] := ⟨mix, ⟨Tryz.f47, Tryz.func47, rfl, rfl, rfl, by kernel_rfl⟩, by kernel_rfl⟩
noncomputable def b48 : Code := Tryz.f48.body.getD .skip
theorem is48 : FnIs Tryz.prog 48 110 b48 #[ResultVar.tmp 4] := ⟨mix, ⟨Tryz.f48, Tryz.func48, rfl, rfl, rfl, by kernel_rfl⟩, by kernel_rfl⟩
noncomputable def b49 : Code := Tryz.f49.body.getD .skip
theorem is49 : FnIs Tryz.prog 49 18 b49 #[ResultVar.tmp 4] := ⟨mix, ⟨Tryz.f49, Tryz.func49, rfl, rfl, rfl, by kernel_rfl⟩, by kernel_rfl⟩
noncomputable def b50 : Code := Tryz.f50.body.getD .skip
theorem is50 : FnIs Tryz.prog 50 10 b50 #[ResultVar.tmp 2] := ⟨mix, ⟨Tryz.f50, Tryz.func50, rfl, rfl, rfl, by kernel_rfl⟩, by kernel_rfl⟩
noncomputable def b51 : Code := Tryz.f51.body.getD .skip
theorem is51 : FnIs Tryz.prog 51 26 b51 #[ResultVar.tmp 4] := ⟨mix, ⟨Tryz.f51, Tryz.func51, rfl, rfl, rfl, by kernel_rfl⟩, by kernel_rfl⟩
noncomputable def b52 : Code := Tryz.f52.body.getD .skip
theorem is52 : FnIs Tryz.prog 52 9 b52 #[ResultVar.tmp 2] := ⟨mix, ⟨Tryz.f52, Tryz.func52, rfl, rfl, rfl, by kernel_rfl⟩, by kernel_rfl⟩
noncomputable def b53 : Code := Tryz.f53.body.getD .skip
theorem is53 : FnIs Tryz.prog 53 21 b53 #[ResultVar.tmp 2] := ⟨mix, ⟨Tryz.f53, Tryz.func53, rfl, rfl, rfl, by kernel_rfl⟩, by kernel_rfl⟩
noncomputable def b54 : Code := Tryz.f54.body.getD .skip
theorem is54 : FnIs Tryz.prog 54 29 b54 #[] := ⟨mix, ⟨Tryz.f54, Tryz.func54, rfl, rfl, rfl, by kernel_rfl⟩, by kernel_rfl⟩
noncomputable def b55 : Code := Tryz.f55.body.getD .skip
theorem is55 : FnIs Tryz.prog 55 35 b55 #[ResultVar.tmp 10] := ⟨mix, ⟨Tryz.f55, Tryz.func55, rfl, rfl, rfl, by kernel_rfl⟩, by kernel_rfl⟩
noncomputable def b56 : Code := Tryz.f56.body.getD .skip
theorem is56 : FnIs Tryz.prog 56 15 b56 #[ResultVar.cell 2 64] := ⟨mix, ⟨Tryz.f56, Tryz.func56, rfl, rfl, rfl, by kernel_rfl⟩, by kernel_rfl⟩
noncomputable def b57 : Code := Tryz.f57.body.getD .skip
theorem is57 : FnIs Tryz.prog 57 56 b57 #[ResultVar.cell 2 40, ResultVar.tmp 3] := ⟨mix, ⟨Tryz.f57, Tryz.func57, rfl, rfl, rfl, by kernel_rfl⟩, by kernel_rfl⟩
noncomputable def b58 : Code := Tryz.f58.body.getD .skip
theorem is58 : FnIs Tryz.prog 58 6 b58 #[ResultVar.cell 2 64] := ⟨mix, ⟨Tryz.f58, Tryz.func58, rfl, rfl, rfl, by kernel_rfl⟩, by kernel_rfl⟩
noncomputable def b59 : Code := Tryz.f59.body.getD .skip
theorem is59 : FnIs Tryz.prog 59 9 b59 #[ResultVar.tmp 2] := ⟨mix, ⟨Tryz.f59, Tryz.func59, rfl, rfl, rfl, by kernel_rfl⟩, by kernel_rfl⟩
noncomputable def b60 : Code := Tryz.f60.body.getD .skip
theorem is60 : FnIs Tryz.prog 60 27 b60 #[ResultVar.tmp 4] := ⟨mix, ⟨Tryz.f60, Tryz.func60, rfl, rfl, rfl, by kernel_rfl⟩, by kernel_rfl⟩
noncomputable def b61 : Code := Tryz.f61.body.getD .skip
theorem is61 : FnIs Tryz.prog 61 8 b61 #[ResultVar.cell 2 31] := ⟨mix, ⟨Tryz.f61, Tryz.func61, rfl, rfl, rfl, by kernel_rfl⟩, by kernel_rfl⟩
noncomputable def b62 : Code := Tryz.f62.body.getD .skip
theorem is62 : FnIs Tryz.prog 62 27 b62 #[ResultVar.tmp 4] := ⟨mix, ⟨Tryz.f62, Tryz.func62, rfl, rfl, rfl, by kernel_rfl⟩, by kernel_rfl⟩
noncomputable def b63 : Code := Tryz.f63.body.getD .skip
theorem is63 : FnIs Tryz.prog 63 10 b63 #[ResultVar.tmp 2, ResultVar.tmp 3] := ⟨mix, ⟨Tryz.f63, Tryz.func63, rfl, rfl, rfl, by kernel_rfl⟩, by kernel_rfl⟩
noncomputable def b64 : Code := Tryz.f64.body.getD .skip
theorem is64 : FnIs Tryz.prog 64 7 b64 #[ResultVar.tmp 2] := ⟨mix, ⟨Tryz.f64, Tryz.func64, rfl, rfl, rfl, by kernel_rfl⟩, by kernel_rfl⟩
noncomputable def b65 : Code := Tryz.f65.body.getD .skip
theorem is65 : FnIs Tryz.prog 65 9 b65 #[] := ⟨mix, ⟨Tryz.f65, Tryz.func65, rfl, rfl, rfl, by kernel_rfl⟩, by kernel_rfl⟩
noncomputable def b66 : Code := Tryz.f66.body.getD .skip
theorem is66 : FnIs Tryz.prog 66 9 b66 #[ResultVar.tmp 4] := ⟨mix, ⟨Tryz.f66, Tryz.func66, rfl, rfl, rfl, by kernel_rfl⟩, by kernel_rfl⟩
noncomputable def b67 : Code := Tryz.f67.body.getD .skip
theorem is67 : FnIs Tryz.prog 67 5 b67 #[ResultVar.tmp 2] := ⟨mix, ⟨Tryz.f67, Tryz.func67, rfl, rfl, rfl, by kernel_rfl⟩, by kernel_rfl⟩
noncomputable def b68 : Code := Tryz.f68.body.getD .skip
theorem is68 : FnIs Tryz.prog 68 19 b68 #[ResultVar.tmp 4] := ⟨mix, ⟨Tryz.f68, Tryz.func68, rfl, rfl, rfl, by kernel_rfl⟩, by kernel_rfl⟩
noncomputable def b69 : Code := Tryz.f69.body.getD .skip
theorem is69 : FnIs Tryz.prog 69 62 b69 #[ResultVar.tmp 4] := ⟨mix, ⟨Tryz.f69, Tryz.func69, rfl, rfl, rfl, by kernel_rfl⟩, by kernel_rfl⟩
noncomputable def b70 : Code := Tryz.f70.body.getD .skip
theorem is70 : FnIs Tryz.prog 70 31 b70 #[ResultVar.tmp 4] := ⟨mix, ⟨Tryz.f70, Tryz.func70, rfl, rfl, rfl, by kernel_rfl⟩, by kernel_rfl⟩
noncomputable def b71 : Code := Tryz.f71.body.getD .skip
theorem is71 : FnIs Tryz.prog 71 201 b71 #[ResultVar.cell 4 37, ResultVar.cell 5 64] := ⟨mix, ⟨Tryz.f71, Tryz.func71, rfl, rfl, rfl, by kernel_rfl⟩, by kernel_rfl⟩
noncomputable def b72 : Code := Tryz.f72.body.getD .skip
theorem is72 : FnIs Tryz.prog 72 20 b72 #[ResultVar.tmp 4] := ⟨mix, ⟨Tryz.f72, Tryz.func72, rfl, rfl, rfl, by kernel_rfl⟩, by kernel_rfl⟩
noncomputable def b73 : Code := Tryz.f73.body.getD .skip
theorem is73 : FnIs Tryz.prog 73 10 b73 #[ResultVar.tmp 2] := ⟨mix, ⟨Tryz.f73, Tryz.func73, rfl, rfl, rfl, by kernel_rfl⟩, by kernel_rfl⟩
noncomputable def b74 : Code := Tryz.f74.body.getD .skip
theorem is74 : FnIs Tryz.prog 74 42 b74 #[ResultVar.tmp 2, ResultVar.tmp 3] := ⟨mix, ⟨Tryz.f74, Tryz.func74, rfl, rfl, rfl, by kernel_rfl⟩, by kernel_rfl⟩
noncomputable def b75 : Code := Tryz.f75.body.getD .skip
theorem is75 : FnIs Tryz.prog 75 36 b75 #[ResultVar.tmp 4] := ⟨mix, ⟨Tryz.f75, Tryz.func75, rfl, rfl, rfl, by kernel_rfl⟩, by kernel_rfl⟩
noncomputable def b76 : Code := Tryz.f76.body.getD .skip
theorem is76 : FnIs Tryz.prog 76 7 b76 #[ResultVar.tmp 4] := ⟨mix, ⟨Tryz.f76, Tryz.func76, rfl, rfl, rfl, by kernel_rfl⟩, by kernel_rfl⟩
noncomputable def b77 : Code := Tryz.f77.body.getD .skip
theorem is77 : FnIs Tryz.prog 77 11 b77 #[ResultVar.tmp 2] := ⟨mix, ⟨Tryz.f77, Tryz.func77, rfl, rfl, rfl, by kernel_rfl⟩, by kernel_rfl⟩
noncomputable def b78 : Code := Tryz.f78.body.getD .skip
theorem is78 : FnIs Tryz.prog 78 22 b78 #[ResultVar.tmp 8] := ⟨mix, ⟨Tryz.f78, Tryz.func78, rfl, rfl, rfl, by kernel_rfl⟩, by kernel_rfl⟩
noncomputable def b79 : Code := Tryz.f79.body.getD .skip
theorem is79 : FnIs Tryz.prog 79 11 b79 #[ResultVar.tmp 7] := ⟨mix, ⟨Tryz.f79, Tryz.func79, rfl, rfl, rfl, by kernel_rfl⟩, by kernel_rfl⟩
noncomputable def b80 : Code := Tryz.f80.body.getD .skip
theorem is80 : FnIs Tryz.prog 80 6 b80 #[] := ⟨mix, ⟨Tryz.f80, Tryz.func80, rfl, rfl, rfl, by kernel_rfl⟩, by kernel_rfl⟩
noncomputable def b81 : Code := Tryz.f81.body.getD .skip
theorem is81 : FnIs Tryz.prog 81 16 b81 #[ResultVar.tmp 5] := ⟨mix, ⟨Tryz.f81, Tryz.func81, rfl, rfl, rfl, by kernel_rfl⟩, by kernel_rfl⟩
noncomputable def b82 : Code := Tryz.f82.body.getD .skip
theorem is82 : FnIs Tryz.prog 82 17 b82 #[ResultVar.tmp 8] := ⟨mix, ⟨Tryz.f82, Tryz.func82, rfl, rfl, rfl, by kernel_rfl⟩, by kernel_rfl⟩
noncomputable def b83 : Code := Tryz.f83.body.getD .skip
theorem is83 : FnIs Tryz.prog 83 6 b83 #[ResultVar.tmp 2] := ⟨mix, ⟨Tryz.f83, Tryz.func83, rfl, rfl, rfl, by kernel_rfl⟩, by kernel_rfl⟩
noncomputable def b84 : Code := Tryz.f84.body.getD .skip
theorem is84 : FnIs Tryz.prog 84 10 b84 #[ResultVar.tmp 4] := ⟨mix, ⟨Tryz.f84, Tryz.func84, rfl, rfl, rfl, by kernel_rfl⟩, by kernel_rfl⟩
noncomputable def b85 : Code := Tryz.f85.body.getD .skip
theorem is85 : FnIs Tryz.prog 85 19 b85 #[ResultVar.tmp 4] := ⟨mix, ⟨Tryz.f85, Tryz.func85, rfl, rfl, rfl, by kernel_rfl⟩, by kernel_rfl⟩
noncomputable def b86 : Code := Tryz.f86.body.getD .skip
theorem is86 : FnIs Tryz.prog 86 98 b86 #[ResultVar.tmp 2] := ⟨mix, ⟨Tryz.f86, Tryz.func86, rfl, rfl, rfl, by kernel_rfl⟩, by kernel_rfl⟩
noncomputable def b87 : Code := Tryz.f87.body.getD .skip
theorem is87 : FnIs Tryz.prog 87 77 b87 #[ResultVar.cell 6 31, ResultVar.tmp 7] := ⟨mix, ⟨Tryz.f87, Tryz.func87, rfl, rfl, rfl, by kernel_rfl⟩, by kernel_rfl⟩
noncomputable def b88 : Code := Tryz.f88.body.getD .skip
theorem is88 : FnIs Tryz.prog 88 37 b88 #[ResultVar.cell 6 37, ResultVar.tmp 7, ResultVar.tmp 8] := ⟨mix, ⟨Tryz.f88, Tryz.func88, rfl, rfl, rfl, by kernel_rfl⟩, by kernel_rfl⟩
noncomputable def b89 : Code := Tryz.f89.body.getD .skip
theorem is89 : FnIs Tryz.prog 89 36 b89 #[ResultVar.tmp 4] := ⟨mix, ⟨Tryz.f89, Tryz.func89, rfl, rfl, rfl, by kernel_rfl⟩, by kernel_rfl⟩
noncomputable def b90 : Code := Tryz.f90.body.getD .skip
theorem is90 : FnIs Tryz.prog 90 63 b90 #[ResultVar.cell 6 31, ResultVar.tmp 7] := ⟨mix, ⟨Tryz.f90, Tryz.func90, rfl, rfl, rfl, by kernel_rfl⟩, by kernel_rfl⟩
noncomputable def b91 : Code := Tryz.f91.body.getD .skip
theorem is91 : FnIs Tryz.prog 91 26 b91 #[ResultVar.tmp 2] := ⟨mix, ⟨Tryz.f91, Tryz.func91, rfl, rfl, rfl, by kernel_rfl⟩, by kernel_rfl⟩
noncomputable def b92 : Code := Tryz.f92.body.getD .skip
theorem is92 : FnIs Tryz.prog 92 27 b92 #[ResultVar.tmp 4] := ⟨mix, ⟨Tryz.f92, Tryz.func92, rfl, rfl, rfl, by kernel_rfl⟩, by kernel_rfl⟩
noncomputable def b93 : Code := Tryz.f93.body.getD .skip
theorem is93 : FnIs Tryz.prog 93 115 b93 #[ResultVar.cell 6 35, ResultVar.tmp 7] := ⟨mix, ⟨Tryz.f93, Tryz.func93, rfl, rfl, rfl, by kernel_rfl⟩, by kernel_rfl⟩
noncomputable def b94 : Code := Tryz.f94.body.getD .skip
theorem is94 : FnIs Tryz.prog 94 9 b94 #[ResultVar.tmp 4] := ⟨mix, ⟨Tryz.f94, Tryz.func94, rfl, rfl, rfl, by kernel_rfl⟩, by kernel_rfl⟩
noncomputable def b95 : Code := Tryz.f95.body.getD .skip
theorem is95 : FnIs Tryz.prog 95 14 b95 #[ResultVar.tmp 3] := ⟨mix, ⟨Tryz.f95, Tryz.func95, rfl, rfl, rfl, by kernel_rfl⟩, by kernel_rfl⟩
noncomputable def b96 : Code := Tryz.f96.body.getD .skip
theorem is96 : FnIs Tryz.prog 96 6 b96 #[ResultVar.tmp 2] := ⟨mix, ⟨Tryz.f96, Tryz.func96, rfl, rfl, rfl, by kernel_rfl⟩, by kernel_rfl⟩
noncomputable def b97 : Code := Tryz.f97.body.getD .skip
theorem is97 : FnIs Tryz.prog 97 8 b97 #[ResultVar.tmp 6] := ⟨mix, ⟨Tryz.f97, Tryz.func97, rfl, rfl, rfl, by kernel_rfl⟩, by kernel_rfl⟩
noncomputable def b98 : Code := Tryz.f98.body.getD .skip
theorem is98 : FnIs Tryz.prog 98 11 b98 #[ResultVar.tmp 4] := ⟨mix, ⟨Tryz.f98, Tryz.func98, rfl, rfl, rfl, by kernel_rfl⟩, by kernel_rfl⟩
noncomputable def b99 : Code := Tryz.f99.body.getD .skip
theorem is99 : FnIs Tryz.prog 99 10 b99 #[] := ⟨mix, ⟨Tryz.f99, Tryz.func99, rfl, rfl, rfl, by kernel_rfl⟩, by kernel_rfl⟩
noncomputable def b100 : Code := Tryz.f100.body.getD .skip
theorem is100 : FnIs Tryz.prog 100 19 b100 #[ResultVar.tmp 4] := ⟨mix, ⟨Tryz.f100, Tryz.func100, rfl, rfl, rfl, by kernel_rfl⟩, by kernel_rfl⟩
noncomputable def b101 : Code := Tryz.f101.body.getD .skip
theorem is101 : FnIs Tryz.prog 101 11 b101 #[ResultVar.tmp 4] := ⟨mix, ⟨Tryz.f101, Tryz.func101, rfl, rfl, rfl, by kernel_rfl⟩, by kernel_rfl⟩
noncomputable def b102 : Code := Tryz.f102.body.getD .skip
theorem is102 : FnIs Tryz.prog 102 16 b102 #[ResultVar.tmp 2] := ⟨mix, ⟨Tryz.f102, Tryz.func102, rfl, rfl, rfl, by kernel_rfl⟩, by kernel_rfl⟩
noncomputable def b103 : Code := Tryz.f103.body.getD .skip
theorem is103 : FnIs Tryz.prog 103 9 b103 #[ResultVar.tmp 2] := ⟨mix, ⟨Tryz.f103, Tryz.func103, rfl, rfl, rfl, by kernel_rfl⟩, by kernel_rfl⟩
noncomputable def b104 : Code := Tryz.f104.body.getD .skip
theorem is104 : FnIs Tryz.prog 104 39 b104 #[ResultVar.tmp 2] := ⟨mix, ⟨Tryz.f104, Tryz.func104, rfl, rfl, rfl, by kernel_rfl⟩, by kernel_rfl⟩
noncomputable def b105 : Code := Tryz.f105.body.getD .skip
theorem is105 : FnIs Tryz.prog 105 19 b105 #[ResultVar.tmp 6] := ⟨mix, ⟨Tryz.f105, Tryz.func105, rfl, rfl, rfl, by kernel_rfl⟩, by kernel_rfl⟩
noncomputable def b106 : Code := Tryz.f106.body.getD .skip
theorem is106 : FnIs Tryz.prog 106 27 b106 #[ResultVar.tmp 6] := ⟨mix, ⟨Tryz.f106, Tryz.func106, rfl, rfl, rfl, by kernel_rfl⟩, by kernel_rfl⟩
noncomputable def b107 : Code := Tryz.f107.body.getD .skip
theorem is107 : FnIs Tryz.prog 107 37 b107 #[ResultVar.tmp 4] := ⟨mix, ⟨Tryz.f107, Tryz.func107, rfl, rfl, rfl, by kernel_rfl⟩, by kernel_rfl⟩
noncomputable def b108 : Code := Tryz.f108.body.getD .skip
theorem is108 : FnIs Tryz.prog 108 20 b108 #[ResultVar.cell 6 31] := ⟨mix, ⟨Tryz.f108, Tryz.func108, rfl, rfl, rfl, by kernel_rfl⟩, by kernel_rfl⟩
noncomputable def b109 : Code := Tryz.f109.body.getD .skip
theorem is109 : FnIs Tryz.prog 109 54 b109 #[ResultVar.cell 6 37, ResultVar.tmp 7] := ⟨mix, ⟨Tryz.f109, Tryz.func109, rfl, rfl, rfl, by kernel_rfl⟩, by kernel_rfl⟩
noncomputable def b110 : Code := Tryz.f110.body.getD .skip
theorem is110 : FnIs Tryz.prog 110 67 b110 #[ResultVar.tmp 4] := ⟨mix, ⟨Tryz.f110, Tryz.func110, rfl, rfl, rfl, by kernel_rfl⟩, by kernel_rfl⟩
noncomputable def b111 : Code := Tryz.f111.body.getD .skip
theorem is111 : FnIs Tryz.prog 111 17 b111 #[ResultVar.tmp 4] := ⟨mix, ⟨Tryz.f111, Tryz.func111, rfl, rfl, rfl, by kernel_rfl⟩, by kernel_rfl⟩
noncomputable def b112 : Code := Tryz.f112.body.getD .skip
theorem is112 : FnIs Tryz.prog 112 18 b112 #[ResultVar.tmp 4] := ⟨mix, ⟨Tryz.f112, Tryz.func112, rfl, rfl, rfl, by kernel_rfl⟩, by kernel_rfl⟩
noncomputable def b113 : Code := Tryz.f113.body.getD .skip
theorem is113 : FnIs Tryz.prog 113 19 b113 #[ResultVar.tmp 4] := ⟨mix, ⟨Tryz.f113, Tryz.func113, rfl, rfl, rfl, by kernel_rfl⟩, by kernel_rfl⟩
noncomputable def b114 : Code := Tryz.f114.body.getD .skip
theorem is114 : FnIs Tryz.prog 114 11 b114 #[ResultVar.tmp 3, ResultVar.tmp 4] := ⟨mix, ⟨Tryz.f114, Tryz.func114, rfl, rfl, rfl, by kernel_rfl⟩, by kernel_rfl⟩
noncomputable def b115 : Code := Tryz.f115.body.getD .skip
theorem is115 : FnIs Tryz.prog 115 26 b115 #[ResultVar.tmp 4] := ⟨mix, ⟨Tryz.f115, Tryz.func115, rfl, rfl, rfl, by kernel_rfl⟩, by kernel_rfl⟩
noncomputable def b116 : Code := Tryz.f116.body.getD .skip
theorem is116 : FnIs Tryz.prog 116 11 b116 #[ResultVar.cell 6 4] := ⟨mix, ⟨Tryz.f116, Tryz.func116, rfl, rfl, rfl, by kernel_rfl⟩, by kernel_rfl⟩
noncomputable def b117 : Code := Tryz.f117.body.getD .skip
theorem is117 : FnIs Tryz.prog 117 58 b117 #[ResultVar.tmp 2] := ⟨mix, ⟨Tryz.f117, Tryz.func117, rfl, rfl, rfl, by kernel_rfl⟩, by kernel_rfl⟩
noncomputable def b118 : Code := Tryz.f118.body.getD .skip
theorem is118 : FnIs Tryz.prog 118 16 b118 #[ResultVar.tmp 2] := ⟨mix, ⟨Tryz.f118, Tryz.func118, rfl, rfl, rfl, by kernel_rfl⟩, by kernel_rfl⟩
noncomputable def b119 : Code := Tryz.f119.body.getD .skip
theorem is119 : FnIs Tryz.prog 119 31 b119 #[ResultVar.tmp 2] := ⟨mix, ⟨Tryz.f119, Tryz.func119, rfl, rfl, rfl, by kernel_rfl⟩, by kernel_rfl⟩
noncomputable def b120 : Code := Tryz.f120.body.getD .skip
theorem is120 : FnIs Tryz.prog 120 15 b120 #[] := ⟨mix, ⟨Tryz.f120, Tryz.func120, rfl, rfl, rfl, by kernel_rfl⟩, by kernel_rfl⟩
noncomputable def b121 : Code := Tryz.f121.body.getD .skip
theorem is121 : FnIs Tryz.prog 121 15 b121 #[] := ⟨mix, ⟨Tryz.f121, Tryz.func121, rfl, rfl, rfl, by kernel_rfl⟩, by kernel_rfl⟩
end Go.Proofs.YtdbgeahmhfocaaaGreat

/- Threads that take turns: the machine: what is left, is it full. -/
namespace Go.Proofs.YtdbgeahmhfocaaaGreat
set_option linter.unusedSimpArgs false
set_option linter.unusedVariables false
set_option maxRecDepth 100000
open Go Go.RowKit
section
variable {B : World} {σ τ : St} {K : Value → St → Prop}

def isFn : Value → Bool
  | .nilFunc => false
  | _ => true
/-- A step: none, or a function. -/
def StV (v : Value) : Prop := v = .nilFunc ∨ ∃ f c1 c2, v = .func (.func f) c1 c2
theorem step_is {v : Value} (hv : StV v) (hK : K (.bool (isFn v)) σ) : Fn Tryz.prog B 67 #[v] σ K := by
  refine Fn.of is67 (by simp) fun hwf => ?_
  rcases hv with rfl | ⟨f, c1, c2, rfl⟩
  · simp only [b67, Tryz.f67, Option.getD_some]
    simp -implicitDefEqProofs (disch := first | omega | (simp only [St.set_n, St.up_n, List.length_cons, List.length_nil]; omega)) only [go_sem, Nat.reduceAdd, Nat.reduceMul, Nat.reduceSub, Int.reduceAdd, Int.reduceMul, Int.reduceSub, Int.reduceNeg, Int.reduceToNat]
    exact hK
  · simp only [b67, Tryz.f67, Option.getD_some]
    simp -implicitDefEqProofs (disch := first | omega | (simp only [St.set_n, St.up_n, List.length_cons, List.length_nil]; omega)) only [go_sem, Nat.reduceAdd, Nat.reduceMul, Nat.reduceSub, Int.reduceAdd, Int.reduceMul, Int.reduceSub, Int.reduceNeg, Int.reduceToNat]
    exact hK
structure IxS (A : Option Addr) (n c i : Nat) (e : Fr) : Prop where
  v0 : e.v 0 = .slice A n c
  v1 : e.v 1 = .func (.func 67) #[] #[]
  v7 : e.v 7 = .int .i64 n
  v8 : e.v 8 = .int .i64 i
  d : e.d = []
theorem vs_get {vs : List Value} {i : Nat} {x : Value} (h : vs[i]? = some x) (sp : List Value) : (vs ++ sp)[i]? = some x := by
  rw [List.getElem?_append_left (List.getElem?_eq_some_iff.1 h).1]; exact h
theorem step_index {vs : List Value} {v : Value} (hl : vs.length ≤ 100000) (hv : ∀ u ∈ vs, StV u) (ho : Own σ 50 1 vs vs.length v) (hK : ∀ r : Int, decide (0 ≤ r) = vs.any isFn → K (.int .i64 r) σ) :
    Fn Tryz.prog B 85 #[v, .func (.func 67) #[] #[]] σ K := by
  obtain ⟨A, c, rfl, hc⟩ := ho.is
  refine Fn.of is85 (by simp) fun hwf => ?_
  simp only [b85, Tryz.f85, Option.getD_some]
  simp -implicitDefEqProofs (disch := first | omega | (simp only [St.set_n, St.up_n, List.length_cons, List.length_nil]; omega)) only [go_sem, Nat.reduceAdd, Nat.reduceMul, Nat.reduceSub, Int.reduceAdd, Int.reduceMul, Int.reduceSub, Int.reduceNeg, Int.reduceToNat]
  refine loop_rule (fun m e s => ∃ i : Nat, m = vs.length - i ∧ i ≤ vs.length ∧ IxS A vs.length c i e ∧ s = σ ∧ ∀ j y, j < i → vs[j]? = some y → isFn y = false) vs.length ?_ ?_
  · exact ⟨0, by omega, by omega, ⟨by simp -implicitDefEqProofs (disch := first | omega | (simp only [St.set_n, St.up_n, List.length_cons, List.length_nil]; omega)) only [go_sem, Nat.reduceAdd, Nat.reduceMul, Nat.reduceSub, Int.reduceAdd, Int.reduceMul, Int.reduceSub, Int.reduceNeg, Int.reduceToNat], by simp -implicitDefEqProofs (disch := first | omega | (simp only [St.set_n, St.up_n, List.length_cons, List.length_nil]; omega)) only [go_sem, Nat.reduceAdd, Nat.reduceMul, Nat.reduceSub, Int.reduceAdd, Int.reduceMul, Int.reduceSub, Int.reduceNeg, Int.reduceToNat], by simp -implicitDefEqProofs (disch := first | omega | (simp only [St.set_n, St.up_n, List.length_cons, List.length_nil]; omega)) only [go_sem, Nat.reduceAdd, Nat.reduceMul, Nat.reduceSub, Int.reduceAdd, Int.reduceMul, Int.reduceSub, Int.reduceNeg, Int.reduceToNat], by simp -implicitDefEqProofs (disch := first | omega | (simp only [St.set_n, St.up_n, List.length_cons, List.length_nil]; omega)) only [go_sem, Nat.reduceAdd, Nat.reduceMul, Nat.reduceSub, Int.reduceAdd, Int.reduceMul, Int.reduceSub, Int.reduceNeg, Int.reduceToNat]; rfl, by simp -implicitDefEqProofs (disch := first | omega | (simp only [St.set_n, St.up_n, List.length_cons, List.length_nil]; omega)) only [go_sem, Nat.reduceAdd, Nat.reduceMul, Nat.reduceSub, Int.reduceAdd, Int.reduceMul, Int.reduceSub, Int.reduceNeg, Int.reduceToNat]⟩, rfl, fun j y hj _ => by omega⟩
  · rintro m e s hws ⟨i, hm, hi, ⟨q0, q1, q7, q8, hd⟩, rfl, hall⟩
    by_cases hlt : (i : Int) < vs.length
    · obtain ⟨x, hx⟩ : ∃ x, vs[i]? = some x := ⟨vs[i]'(by omega), List.getElem?_eq_getElem (by omega)⟩
      obtain ⟨b1, c1, sp1, e1, _, m1, _, _⟩ := ho.has (by omega)
      cases e1
      have g1 := vs_get hx sp1
      simp -implicitDefEqProofs (disch := first | omega | (simp only [St.set_n, St.up_n, List.length_cons, List.length_nil]; omega)) only [go_sem, Nat.reduceAdd, Nat.reduceMul, Nat.reduceSub, Int.reduceAdd, Int.reduceMul, Int.reduceSub, Int.reduceNeg, Int.reduceToNat, q0, q1, q7, q8, hlt, m1, g1]
      refine callF_of (step_is (hv x (List.mem_of_getElem? hx)) ?_)
      cases hf : isFn x with
      | true =>
        simp -implicitDefEqProofs (disch := first | omega | (simp only [St.set_n, St.up_n, List.length_cons, List.length_nil]; omega)) only [go_sem, Nat.reduceAdd, Nat.reduceMul, Nat.reduceSub, Int.reduceAdd, Int.reduceMul, Int.reduceSub, Int.reduceNeg, Int.reduceToNat, hd]
        refine hK _ ?_
        have h1 : vs.any isFn = true := List.any_eq_true.2 ⟨x, List.mem_of_getElem? hx, hf⟩
        rw [h1]; simp
      | false =>
        simp -implicitDefEqProofs (disch := first | omega | (simp only [St.set_n, St.up_n, List.length_cons, List.length_nil]; omega)) only [go_sem, Nat.reduceAdd, Nat.reduceMul, Nat.reduceSub, Int.reduceAdd, Int.reduceMul, Int.reduceSub, Int.reduceNeg, Int.reduceToNat, q8]
        refine ⟨vs.length - (i + 1), by omega, i + 1, rfl, by omega, ⟨by simp -implicitDefEqProofs (disch := first | omega | (simp only [St.set_n, St.up_n, List.length_cons, List.length_nil]; omega)) only [go_sem, Nat.reduceAdd, Nat.reduceMul, Nat.reduceSub, Int.reduceAdd, Int.reduceMul, Int.reduceSub, Int.reduceNeg, Int.reduceToNat, q0], by simp -implicitDefEqProofs (disch := first | omega | (simp only [St.set_n, St.up_n, List.length_cons, List.length_nil]; omega)) only [go_sem, Nat.reduceAdd, Nat.reduceMul, Nat.reduceSub, Int.reduceAdd, Int.reduceMul, Int.reduceSub, Int.reduceNeg, Int.reduceToNat, q1], by simp -implicitDefEqProofs (disch := first | omega | (simp only [St.set_n, St.up_n, List.length_cons, List.length_nil]; omega)) only [go_sem, Nat.reduceAdd, Nat.reduceMul, Nat.reduceSub, Int.reduceAdd, Int.reduceMul, Int.reduceSub, Int.reduceNeg, Int.reduceToNat, q7], by simp -implicitDefEqProofs (disch := first | omega | (simp only [St.set_n, St.up_n, List.length_cons, List.length_nil]; omega)) only [go_sem, Nat.reduceAdd, Nat.reduceMul, Nat.reduceSub, Int.reduceAdd, Int.reduceMul, Int.reduceSub, Int.reduceNeg, Int.reduceToNat]; simp, by simp -implicitDefEqProofs (disch := first | omega | (simp only [St.set_n, St.up_n, List.length_cons, List.length_nil]; omega)) only [go_sem, Nat.reduceAdd, Nat.reduceMul, Nat.reduceSub, Int.reduceAdd, Int.reduceMul, Int.reduceSub, Int.reduceNeg, Int.reduceToNat, hd]⟩, fun j y hj hy => ?_⟩
        by_cases hji : j = i
        · subst hji; rw [hx] at hy; cases hy; exact hf
        · exact hall j y (by omega) hy
    · simp -implicitDefEqProofs (disch := first | omega | (simp only [St.set_n, St.up_n, List.length_cons, List.length_nil]; omega)) only [go_sem, Nat.reduceAdd, Nat.reduceMul, Nat.reduceSub, Int.reduceAdd, Int.reduceMul, Int.reduceSub, Int.reduceNeg, Int.reduceToNat, q7, q8, hlt, hd]
      refine hK _ ?_
      have h1 : vs.any isFn = false := by
        rw [List.any_eq_false]
        intro y hy
        obtain ⟨j, hj⟩ := List.getElem?_of_mem hy
        have := hall j y (by have := (List.getElem?_eq_some_iff.1 hj).1; omega) hj
        simp [this]
      rw [h1]; rfl
theorem step_any {vs : List Value} {v : Value} (hl : vs.length ≤ 100000) (hv : ∀ u ∈ vs, StV u) (ho : Own σ 50 1 vs vs.length v) (hK : K (.bool (vs.any isFn)) σ) :
    Fn Tryz.prog B 66 #[v, .func (.func 67) #[] #[]] σ K := by
  refine Fn.of is66 (by simp) fun hwf => ?_
  simp only [b66, Tryz.f66, Option.getD_some]
  simp -implicitDefEqProofs (disch := first | omega | (simp only [St.set_n, St.up_n, List.length_cons, List.length_nil]; omega)) only [go_sem, Nat.reduceAdd, Nat.reduceMul, Nat.reduceSub, Int.reduceAdd, Int.reduceMul, Int.reduceSub, Int.reduceNeg, Int.reduceToNat]
  refine callF_of (step_index hl hv ho fun r hr => ?_)
  simp -implicitDefEqProofs (disch := first | omega | (simp only [St.set_n, St.up_n, List.length_cons, List.length_nil]; omega)) only [go_sem, Nat.reduceAdd, Nat.reduceMul, Nat.reduceSub, Int.reduceAdd, Int.reduceMul, Int.reduceSub, Int.reduceNeg, Int.reduceToNat]
  rw [hr]; exact hK

/-! ### The machine -/
structure MM where
  mv : List Int
  ca : Int
  er : Int
  nx : List Value
def mRoot (ca er : Int) : List Value → List Value
  | [a, b] => [a, .int .i64 ca, .int .i64 er, b]
  | _ => []
@[go_sem] theorem mRoot_two {ca er : Int} {a b : Value} : mRoot ca er [a, b] = [a, .int .i64 ca, .int .i64 er, b] := rfl
def spM (M : MM) : List Sp := [⟨3, 1, ints M.mv, M.mv.length⟩, ⟨50, 1, M.nx, M.nx.length⟩]
abbrev MaR (M : MM) (q : Nat) : Heaplet → Prop := Obj 114 (mRoot M.ca M.er) (spM M) q
theorem m_left_o {q : Nat} {v1 v2 : Value} {ca er : Int} {nx : List Value} (hr : σ.m q = some (.raw (.cells #[v1, .int .i64 ca, .int .i64 er, v2] 114 (0, 0)))) (ho : Own σ 50 1 nx nx.length v2) (hl : nx.length ≤ 100000) (hv : ∀ u ∈ nx, StV u) (hK : K (.bool (nx.any isFn)) σ) : Fn Tryz.prog B 42 #[.pointer (some ⟨q, 0, none⟩)] σ K := by
  refine Fn.of is42 (by simp) fun hwf => ?_
  simp only [b42, Tryz.f42, Option.getD_some]
  simp -implicitDefEqProofs (disch := first | omega | (simp only [St.set_n, St.up_n, List.length_cons, List.length_nil]; omega)) only [go_sem, Nat.reduceAdd, Nat.reduceMul, Nat.reduceSub, Int.reduceAdd, Int.reduceMul, Int.reduceSub, Int.reduceNeg, Int.reduceToNat, hr]
  refine callF_of (step_any hl hv ho ?_)
  simp -implicitDefEqProofs (disch := first | omega | (simp only [St.set_n, St.up_n, List.length_cons, List.length_nil]; omega)) only [go_sem, Nat.reduceAdd, Nat.reduceMul, Nat.reduceSub, Int.reduceAdd, Int.reduceMul, Int.reduceSub, Int.reduceNeg, Int.reduceToNat]
  exact hK
theorem m_full_o {q : Nat} {v1 v2 : Value} {ca er : Int} {mv : List Int} {nx : List Value} (hr : σ.m q = some (.raw (.cells #[v1, .int .i64 ca, .int .i64 er, v2] 114 (0, 0)))) (h1 : Own σ 3 1 (ints mv) mv.length v1) (ho : Own σ 50 1 nx nx.length v2) (hl : nx.length ≤ 100000) (hml : mv.length ≤ 100000) (hv : ∀ u ∈ nx, StV u)
    (hK : K (.bool (decide (65536 ≤ mv.length) && nx.any isFn)) σ) : Fn Tryz.prog B 40 #[.pointer (some ⟨q, 0, none⟩)] σ K := by
  obtain ⟨A1, c1, rfl, _⟩ := h1.is
  refine Fn.of is40 (by simp) fun hwf => ?_
  simp only [b40, Tryz.f40, Option.getD_some]
  by_cases h : (65536 : Int) ≤ mv.length
  · have h' : 65536 ≤ mv.length := by omega
    simp only [h', decide_true, Bool.true_and] at hK
    simp -implicitDefEqProofs (disch := first | omega | (simp only [St.set_n, St.up_n, List.length_cons, List.length_nil]; omega)) only [go_sem, Nat.reduceAdd, Nat.reduceMul, Nat.reduceSub, Int.reduceAdd, Int.reduceMul, Int.reduceSub, Int.reduceNeg, Int.reduceToNat, hr, h]
    refine callF_of (m_left_o hr ho hl hv ?_)
    simp -implicitDefEqProofs (disch := first | omega | (simp only [St.set_n, St.up_n, List.length_cons, List.length_nil]; omega)) only [go_sem, Nat.reduceAdd, Nat.reduceMul, Nat.reduceSub, Int.reduceAdd, Int.reduceMul, Int.reduceSub, Int.reduceNeg, Int.reduceToNat]
    exact hK
  · have h' : ¬ 65536 ≤ mv.length := by omega
    simp only [h', decide_false, Bool.false_and] at hK
    simp -implicitDefEqProofs (disch := first | omega | (simp only [St.set_n, St.up_n, List.length_cons, List.length_nil]; omega)) only [go_sem, Nat.reduceAdd, Nat.reduceMul, Nat.reduceSub, Int.reduceAdd, Int.reduceMul, Int.reduceSub, Int.reduceNeg, Int.reduceToNat, hr, h]
    exact hK
theorem Fn.closed {f : FuncId} {args : Array Value} {M : MM} {q : Nat} (hm : σ.m q = some (.comp (MaR M q))) (he : ∃ fn, Tryz.prog.funcs[f]? = some fn ∧ (fn.name == "runtime.NumGoroutine") = false ∧ fn.body.isSome = true) {r : Value}
    (h : ∀ (v1 v2 : Value) (τ : St) (K' : Value → St → Prop), τ.m q = some (.raw (.cells #[v1, .int .i64 M.ca, .int .i64 M.er, v2] 114 (0, 0))) → Own τ 3 1 (ints M.mv) M.mv.length v1 → Own τ 50 1 M.nx M.nx.length v2 → K' r τ → Fn Tryz.prog B f args τ K')
    (hK : K r σ) : Fn Tryz.prog B f args σ K := by
  refine Fn.openO hm he fun vs τ hwf hn hr ho ha hk => ?_
  obtain ⟨v1, v2, rfl, o1, o2⟩ := ho.two
  refine (h v1 v2 τ (fun v s => v = r ∧ s = τ) hr o1 o2 ⟨rfl, rfl⟩).conseq ?_
  rintro v s ⟨rfl, rfl⟩
  refine ⟨_, To.closeO [v1, v2] hr ho ha hk, ?_⟩
  rw [St.set_same hm, hn]
  exact hK
theorem m_left {M : MM} {q : Nat} (hm : σ.m q = some (.comp (MaR M q))) (hl : M.nx.length ≤ 100000) (hv : ∀ u ∈ M.nx, StV u) (hK : K (.bool (M.nx.any isFn)) σ) : Fn Tryz.prog B 42 #[.pointer (some ⟨q, 0, none⟩)] σ K :=
  Fn.closed hm is42.en (fun v1 v2 τ K' hr h1 h2 hk => m_left_o hr h2 hl hv hk) hK
theorem m_full {M : MM} {q : Nat} (hm : σ.m q = some (.comp (MaR M q))) (hl : M.nx.length ≤ 100000) (hml : M.mv.length ≤ 100000) (hv : ∀ u ∈ M.nx, StV u) (hK : K (.bool (decide (65536 ≤ M.mv.length) && M.nx.any isFn)) σ) : Fn Tryz.prog B 40 #[.pointer (some ⟨q, 0, none⟩)] σ K :=
  Fn.closed hm is40.en (fun v1 v2 τ K' hr h1 h2 hk => m_full_o hr h1 h2 hl hml hv hk) hK

/-! ### A system of steps -/
structure Sys (B : World) where
  X : Type
  n : Nat
  live : X → Nat → Bool
  tr : X → Nat → X × Bool
  Inv : (Nat → Prop) → X → List Value → St → Prop
  len : ∀ {G x vs s}, Inv G x vs s → vs.length = n
  val : ∀ {G x vs s t v}, Inv G x vs s → vs[t]? = some v → (live x t = false ∧ v = .nilFunc) ∨ (live x t = true ∧ ∃ f c1 c2, v = .func (.func f) c1 c2)
  fresh : ∀ {G x vs s q}, Inv G x vs s → s.m q = none → q < s.n → Inv (fun c => G c ∨ c = q) x vs s
  weak : ∀ {G G' x vs s}, Inv G' x vs s → (∀ c, G c → G' c) → Inv G x vs s
  stable : ∀ {G x vs s s'}, Inv G x vs s → (∀ c y, ¬ G c → s.m c = some y → s'.m c = some y) → s.n ≤ s'.n → Inv G x vs s'
  step : ∀ {G x vs s t f c1 c2}, s.wf B → Inv G x vs s → live x t = true → vs[t]? = some (.func (.func f) c1 c2) →
    Fn Tryz.prog B f (c1 ++ c2) s fun r s' => ∃ v', r = .tuple #[v', .bool (tr x t).2] ∧ StV v' ∧ Inv G (tr x t).1 (if (tr x t).2 then vs.set t v' else vs) s' ∧ s.n ≤ s'.n ∧ ∀ c y, G c → s.m c = some y → s'.m c = some y

namespace Sys
variable (Y : Sys B)
structure MA where
  x : Y.X
  mv : List Int
  ca : Nat
variable {Y}
def turnA (a : Y.MA) (t : Int) : Y.MA × Bool :=
  if 0 ≤ t ∧ t < Y.n ∧ Y.live a.x t.toNat = true then
    (⟨(Y.tr a.x t.toNat).1, if (Y.tr a.x t.toNat).2 then a.mv ++ [t] else a.mv, a.ca + 1⟩, (Y.tr a.x t.toNat).2)
  else (a, false)
def leftA (x : Y.X) : Bool := (List.range Y.n).any (Y.live x)
def fullA (a : Y.MA) : Bool := decide (65536 ≤ a.mv.length) && leftA a.x
def picksA : Y.MA → List Int → Y.MA
  | a, [] => a
  | a, p :: ps => if fullA a then a else picksA (turnA a p).1 ps
/-- A round from the i-th thread on, 'k' threads. -/
def roundA : Y.MA → Nat → Bool → Nat → Y.MA × Bool
  | a, _, y, 0 => (a, y)
  | a, i, y, k + 1 => if fullA a then (a, false) else roundA (turnA a i).1 (i + 1) (y || (turnA a i).2) k
def loopA : Nat → Y.MA → Y.MA × Int
  | 0, a => (a, 12)
  | k + 1, a => if leftA a.x then (if fullA a then (a, 12) else (if (roundA a 0 false Y.n).2 then loopA k (roundA a 0 false Y.n).1 else ((roundA a 0 false Y.n).1, 12))) else (a, 0)
end Sys
theorem left_any {Y : Sys B} {G : Nat → Prop} {x : Y.X} {vs : List Value} {s : St} (h : Y.Inv G x vs s) : vs.any isFn = Sys.leftA x := by
  have hl := Y.len h
  unfold Sys.leftA
  rw [Bool.eq_iff_iff, List.any_eq_true, List.any_eq_true]
  constructor
  · rintro ⟨v, hv, hf⟩
    obtain ⟨t, ht⟩ := List.getElem?_of_mem hv
    refine ⟨t, List.mem_range.2 (by have := (List.getElem?_eq_some_iff.1 ht).1; omega), ?_⟩
    rcases Y.val h ht with ⟨_, rfl⟩ | ⟨h1, _⟩
    · cases hf
    · exact h1
  · rintro ⟨t, ht, hf⟩
    have ht' := List.mem_range.1 ht
    obtain ⟨v, hv⟩ : ∃ v, vs[t]? = some v := ⟨vs[t]'(by omega), List.getElem?_eq_getElem (by omega)⟩
    refine ⟨v, List.mem_of_getElem? hv, ?_⟩
    rcases Y.val h hv with ⟨h1, _⟩ | ⟨_, f, c1, c2, rfl⟩
    · rw [hf] at h1; cases h1
    · rfl
theorem vals_st {Y : Sys B} {G : Nat → Prop} {x : Y.X} {vs : List Value} {s : St} (h : Y.Inv G x vs s) : ∀ u ∈ vs, StV u := fun u hu => by
  obtain ⟨t, ht⟩ := List.getElem?_of_mem hu
  rcases Y.val h ht with ⟨_, h1⟩ | ⟨_, h1⟩
  · exact .inl h1
  · exact .inr h1
end
end Go.Proofs.YtdbgeahmhfocaaaGreat

/- Threads that take turns: one turn. -/
namespace Go.Proofs.YtdbgeahmhfocaaaGreat
set_option linter.unusedSimpArgs false
set_option linter.unusedVariables false
set_option maxRecDepth 100000
open Go Go.RowKit
section
variable {B : World} {σ τ : St} {K : Value → St → Prop}
/-- 'append' of one element to a slice that the frame owns; all else is as it was. -/
theorem appE {P : Program} {s : St} {d : Option Tmp} {K : Fr → St → Prop} {e : Fr} {t xt el : TypeId} {sz bts n c : Nat} {z w : Value} {cs ys : List Value} (hwf : s.wf B) (hw : Own s el sz cs n w) (ht : se P t = some (el, sz, bts)) (hxt : kd P xt = .slice) (hz : zr P el = some z) (hzs : z.cells.size = sz) (hb0 : bts ≠ 0)
    {ty : TypeId} (hyl : ys.length = sz) (hy1 : ys.all Value.oneCell' = true) (hroom : (2 * (n + 1) + 768) * bts ≤ 2 ^ 48)
    (hK : ∀ A C σ', n + 1 ≤ C → Own σ' el sz (cs ++ ys) (n + 1) (.slice A (n + 1) C) → (∀ c, c < s.n → blk w ≠ some c → σ'.m c = s.m c) → (∀ b, blk (.slice A (n + 1) C) = some b → s.n ≤ b ∨ blk w = some b) → s.n ≤ σ'.n → σ'.wf B → K (e.put d (.slice A (n + 1) C)) σ') :
    appK P B t xt w (.slice (some ⟨s.n, 0, none⟩) 1 c) d K e ((s.set s.n (.raw (.cells ys.toArray ty (0, 0)))).up (s.n + 1)) := by
  have keep : ∀ c x, s.m c = some x → ((s.set s.n (.raw (.cells ys.toArray ty (0, 0)))).up (s.n + 1)).m c = some x := fun c x hc => by
    have := (hwf.2 c _ hc).2
    simp only [St.up_m]
    rw [St.set_m_ne _ _ (by omega)]; exact hc
  refine appK_one2 ht hxt hz hzs hb0 (hw.keepR fun b o _ hb => keep b _ hb) (ty := ty) (fz := (0, 0)) (by simp) hyl hy1 hroom fun v' σ' h1 h2 h3 h4 => ?_
  obtain ⟨A, C, rfl, hC⟩ := h1.is
  simp only [St.up_n] at h2 h4
  have hb : ∀ b, blk (.slice A (n + 1) C) = some b → s.n ≤ b ∨ blk w = some b := fun b hb => (h2 b hb).imp (fun h => by omega) id
  refine hK A C σ' hC h1 (fun c hc hw' => ?_) hb (by omega) ⟨by have := hwf.1; omega, fun c x hc => ?_⟩
  · rw [h3 c fun e => (hb c e).elim (by omega) hw']
    simp only [St.up_m]
    rw [St.set_m_ne _ _ (by omega)]
  · have hB := hwf.1
    by_cases e1 : blk (.slice A (n + 1) C) = some c
    · rcases h2 c e1 with ⟨e2, e3⟩ | e2
      · omega
      · obtain ⟨o, ho⟩ := hw.at_ e2
        have := hwf.2 _ _ ho; omega
    · rw [h3 c e1] at hc
      simp only [St.up_m] at hc
      by_cases e2 : c = s.n
      · omega
      · rw [St.set_m_ne _ _ e2] at hc
        have := hwf.2 _ _ hc; omega

/-- The machine of a system, opened: the slices' blocks are kept, too. -/
theorem inv_open {Y : Sys B} {G : Nat → Prop} {x : Y.X} {nx : List Value} {q : Nat} {v1 v2 : Value} (hI : Y.Inv G x nx σ) (hG : G q) (ha : Apart [v1, v2] q) (hn : τ.n = σ.n) (hlt : ∀ v ∈ [v1, v2], ∀ b, blk v = some b → b < τ.n)
    (hk : ∀ c y, c ≠ q → σ.m c = some y → τ.m c = some y ∧ OffL [v1, v2] c) : Y.Inv (fun c => G c ∨ blk v1 = some c ∨ blk v2 = some c) x nx τ := by
  have hno : ∀ b, (blk v1 = some b ∨ blk v2 = some b) → σ.m b = none := fun b hb => by
    cases hm : σ.m b with
    | none => rfl
    | some y =>
      have hbq : b ≠ q := fun e => by
        subst e
        rcases hb with h | h
        · exact ha.1 h
        · exact ha.2.2.1 h
      have := (hk b y hbq hm).2
      rcases hb with h | h
      · exact absurd h this.1
      · exact absurd h this.2.1
  have h1 : Y.Inv (fun c => G c ∨ blk v1 = some c ∨ blk v2 = some c) x nx σ := by
    cases e1 : blk v1 with
    | none =>
      cases e2 : blk v2 with
      | none => exact Y.weak hI fun c hc => by simpa using hc
      | some b2 => exact Y.weak (Y.fresh hI (hno b2 (.inr e2)) (hn ▸ hlt v2 (by simp) b2 e2)) fun c hc => by simpa [eq_comm] using hc
    | some b1 =>
      have h2 := Y.fresh hI (hno b1 (.inl e1)) (hn ▸ hlt v1 (by simp) b1 e1)
      cases e2 : blk v2 with
      | none => exact Y.weak h2 fun c hc => by simpa [eq_comm] using hc
      | some b2 => exact Y.weak (Y.fresh h2 (hno b2 (.inr e2)) (hn ▸ hlt v2 (by simp) b2 e2)) fun c hc => by simpa [eq_comm, or_assoc] using hc
  exact Y.stable h1 (fun c y hc hx => (hk c y (fun e => hc (.inl (e ▸ hG))) hx).1) (by omega)
/-- The machine is closed again. -/
theorem inv_close {Y : Sys B} {G : Nat → Prop} {x : Y.X} {nx : List Value} {q : Nat} {v1 v2 : Value} {M : MM} (hI : Y.Inv (fun c => G c ∨ blk v1 = some c ∨ blk v2 = some c) x nx τ) (hG : G q) (hO : OpenO τ q 114 (mRoot M.ca M.er) (spM M) [v1, v2]) :
    ∃ σ'', To B τ σ'' ∧ σ''.m q = some (.comp (MaR M q)) ∧ Y.Inv G x nx σ'' ∧ σ''.n = τ.n ∧ ∀ c y, c ≠ q → τ.m c = some y → OffL [v1, v2] c → σ''.m c = some y := by
  have hl : ∃ σ'', To B τ σ'' ∧ σ''.m q = some (.comp (MaR M q)) ∧ σ''.n = τ.n ∧ ∀ c y, c ≠ q → τ.m c = some y → OffL [v1, v2] c → σ''.m c = some y := by
    have hin : ∀ v ∈ [v1, v2], ∀ b, blk v = some b → b ∈ q :: [v1, v2].filterMap blk := fun v hv b hb => List.mem_cons_of_mem _ (List.mem_filterMap.2 ⟨v, hv, hb⟩)
    refine ⟨τ.fold q (pick τ (q :: [v1, v2].filterMap blk)) (MaR M q), To.fold q _ (fun c o hc => ?_) ?_ ⟨[v1, v2], pick_of List.mem_cons_self hO.root, hO.own.keepR fun v hv b o hb hm => ?_, hO.apart⟩, by simp [St.fold], rfl, fun c x hc hx ho => ?_⟩
    · unfold pick at hc
      split at hc
      · split at hc <;> first | contradiction | skip
        rename_i o2 hm
        cases hc; exact hm
      · cases hc
    · rw [pick_of List.mem_cons_self hO.root]; rfl
    · simp only [hs, pick_of (hin v hv b hb) hm, Option.map_some]
    · have : c ∉ q :: [v1, v2].filterMap blk := fun hm => by
        rcases List.mem_cons.1 hm with h3 | h3
        · exact hc h3
        · obtain ⟨v, hv, hb⟩ := List.mem_filterMap.1 h3
          exact ho.mem v hv hb
      have hp : pick τ (q :: [v1, v2].filterMap blk) c = none := by unfold pick; rw [if_neg this]
      simp only [St.fold, if_neg hc, hp, Option.isSome_none, Bool.false_eq_true, if_false]; exact hx
  obtain ⟨σ'', hT, hq, hn, hk⟩ := hl
  refine ⟨σ'', hT, hq, Y.weak (Y.stable hI (fun c y hc hx => hk c y (fun e => hc (.inl (e ▸ hG))) hx ⟨fun e => hc (.inr (.inl e)), fun e => hc (.inr (.inr e)), trivial⟩) (by omega)) fun c hc => .inl hc, hn, hk⟩
set_option maxHeartbeats 8000000 in
theorem m_turn {Y : Sys B} {G : Nat → Prop} {a : Y.MA} {vs : List Value} {er : Int} {q : Nat} {t : Int} (hG : G q) (hm : σ.m q = some (.comp (MaR ⟨a.mv, a.ca, er, vs⟩ q))) (hI : Y.Inv G a.x vs σ) (hN : Y.n ≤ 1000) (hmv : a.mv.length ≤ 100000) (hca : a.ca ≤ 1000000000)
    (hK : ∀ vs' s, s.m q = some (.comp (MaR ⟨(Sys.turnA a t).1.mv, (Sys.turnA a t).1.ca, er, vs'⟩ q)) → Y.Inv G (Sys.turnA a t).1.x vs' s → σ.n ≤ s.n → (∀ c y, G c → c ≠ q → σ.m c = some y → s.m c = some y) → K (.bool (Sys.turnA a t).2) s) :
    Fn Tryz.prog B 41 #[.pointer (some ⟨q, 0, none⟩), .int .i64 t] σ K := by
  refine Fn.openO hm is41.en fun vv τ hwf hn hr ho ha hk => ?_
  have ho0 := ho
  obtain ⟨v1, v2, rfl, o1, o2⟩ := ho.two
  simp only at o1 o2
  obtain ⟨A1, c1, rfl, _⟩ := o1.is
  obtain ⟨A2, c2, rfl, _⟩ := o2.is
  have hI1 := inv_open hI hG ha hn (fun v hv b hb => by obtain ⟨o, ho'⟩ := ho0.at_ v hv b hb; exact (hwf.2 _ _ ho').2) hk
  have hlen := Y.len hI
  have hr0 := hr
  simp only [mRoot_two] at hr
  refine Fn.of' is41 (by simp) fun _ => ?_
  have no : ∀ s : St, s = τ → Sys.turnA a t = (a, false) → ∃ σ'', To B s σ'' ∧ K (.bool false) σ'' := fun s hs he => by
    subst hs
    rw [he] at hK
    refine ⟨_, To.closeO [_, _] hr0 ho ha hk, ?_⟩
    rw [St.set_same hm, hn]
    exact hK vs σ hm hI (Nat.le_refl _) fun c y _ _ hx => hx
  simp only [b41, Tryz.f41, Option.getD_some]
  by_cases h1 : t < 0
  · simp -implicitDefEqProofs (disch := first | omega | (simp only [St.set_n, St.up_n, List.length_cons, List.length_nil]; omega)) only [go_sem, Nat.reduceAdd, Nat.reduceMul, Nat.reduceSub, Int.reduceAdd, Int.reduceMul, Int.reduceSub, Int.reduceNeg, Int.reduceToNat, hr, h1]
    exact no _ rfl (by unfold Sys.turnA; rw [if_neg (by omega)])
  by_cases h2 : (vs.length : Int) ≤ t
  · simp -implicitDefEqProofs (disch := first | omega | (simp only [St.set_n, St.up_n, List.length_cons, List.length_nil]; omega)) only [go_sem, Nat.reduceAdd, Nat.reduceMul, Nat.reduceSub, Int.reduceAdd, Int.reduceMul, Int.reduceSub, Int.reduceNeg, Int.reduceToNat, hr, h1, h2]
    exact no _ rfl (by unfold Sys.turnA; rw [if_neg (by omega)])
  obtain ⟨j, rfl⟩ : ∃ j : Nat, t = j := ⟨t.toNat, by omega⟩
  obtain ⟨v, hv⟩ : ∃ v, vs[j]? = some v := ⟨vs[j]'(by omega), List.getElem?_eq_getElem (by omega)⟩
  obtain ⟨b2, _, sp2, e2, hc2, m2, l2, _⟩ := o2.has (by omega)
  cases e2
  have g2 := vs_get hv sp2
  have hjl : (j : Int) < vs.length := by omega
  have hqn := (hwf.2 _ _ hr).2
  have hb2q : b2 ≠ q := fun e => ha.2.2.1 (by rw [e]; rfl)
  rcases Y.val hI hv with ⟨hlv, rfl⟩ | ⟨hlv, f, d1, d2, rfl⟩
  · simp -implicitDefEqProofs (disch := first | omega | (simp only [St.set_n, St.up_n, List.length_cons, List.length_nil]; omega)) only [go_sem, Nat.reduceAdd, Nat.reduceMul, Nat.reduceSub, Int.reduceAdd, Int.reduceMul, Int.reduceSub, Int.reduceNeg, Int.reduceToNat, hr, h1, h2, m2, g2, hjl]
    exact no _ rfl (by unfold Sys.turnA; rw [if_neg (by simp [hlv])])
  have hT : Sys.turnA a (j : Int) = (⟨(Y.tr a.x j).1, if (Y.tr a.x j).2 then a.mv ++ [(j : Int)] else a.mv, a.ca + 1⟩, (Y.tr a.x j).2) := by
    unfold Sys.turnA
    rw [if_pos ⟨by omega, by omega, by simpa using hlv⟩]
    simp only [Int.toNat_natCast]
  rw [hT] at hK
  simp only at hK
  have hI2 := Y.stable hI1 (s' := τ.set q (.raw (.cells #[.slice A1 a.mv.length c1, .int .i64 (a.ca + 1), .int .i64 er, .slice (some ⟨b2, 0, none⟩) vs.length c2] 114 (0, 0)))) (fun c y hc hx => by
    have : c ≠ q := fun e => hc (.inl (e ▸ hG))
    simp -implicitDefEqProofs (disch := first | omega | (simp only [St.set_n, St.up_n, List.length_cons, List.length_nil]; omega)) only [go_sem, Nat.reduceAdd, Nat.reduceMul, Nat.reduceSub, Int.reduceAdd, Int.reduceMul, Int.reduceSub, Int.reduceNeg, Int.reduceToNat, hx]) (Nat.le_refl _)
  simp -implicitDefEqProofs (disch := first | omega | (simp only [St.set_n, St.up_n, List.length_cons, List.length_nil]; omega)) only [go_sem, Nat.reduceAdd, Nat.reduceMul, Nat.reduceSub, Int.reduceAdd, Int.reduceMul, Int.reduceSub, Int.reduceNeg, Int.reduceToNat, hr, h1, h2, m2, g2, hjl, hb2q]
  refine callF_wf ((Y.step (hwf.set _ (hwf.2 _ _ hr)) hI2 hlv hv).mono ?_)
  rintro r s1 ⟨v', rfl, hst, hI3, hn1, hk1⟩ hws1
  have hr1 : s1.m q = some (.raw (.cells #[.slice A1 a.mv.length c1, .int .i64 (a.ca + 1), .int .i64 er, .slice (some ⟨b2, 0, none⟩) vs.length c2] 114 (0, 0))) := hk1 q _ (.inl hG) (by simp -implicitDefEqProofs (disch := first | omega | (simp only [St.set_n, St.up_n, List.length_cons, List.length_nil]; omega)) only [go_sem, Nat.reduceAdd, Nat.reduceMul, Nat.reduceSub, Int.reduceAdd, Int.reduceMul, Int.reduceSub, Int.reduceNeg, Int.reduceToNat])
  have m21 : s1.m b2 = some (.raw (.cells (vs ++ sp2).toArray 50 (0, 0))) := hk1 b2 _ (.inr (.inr rfl)) (by simp -implicitDefEqProofs (disch := first | omega | (simp only [St.set_n, St.up_n, List.length_cons, List.length_nil]; omega)) only [go_sem, Nat.reduceAdd, Nat.reduceMul, Nat.reduceSub, Int.reduceAdd, Int.reduceMul, Int.reduceSub, Int.reduceNeg, Int.reduceToNat, m2])
  have o11 : Own s1 3 1 (ints a.mv) a.mv.length (.slice A1 a.mv.length c1) := o1.keepR fun b o hb ho => hk1 b _ (.inr (.inl hb)) (by
    have : b ≠ q := fun e => ha.1 (e ▸ hb)
    simp -implicitDefEqProofs (disch := first | omega | (simp only [St.set_n, St.up_n, List.length_cons, List.length_nil]; omega)) only [go_sem, Nat.reduceAdd, Nat.reduceMul, Nat.reduceSub, Int.reduceAdd, Int.reduceMul, Int.reduceSub, Int.reduceNeg, Int.reduceToNat, ho])
  have hn1' : τ.n ≤ s1.n := hn1
  have hold1 : ∀ c y, G c → c ≠ q → σ.m c = some y → s1.m c = some y ∧ OffL [.slice A1 a.mv.length c1, .slice (some ⟨b2, 0, none⟩) vs.length c2] c := fun c y hc hcq hx => by
    obtain ⟨h5, h6⟩ := hk c y hcq hx
    exact ⟨hk1 c y (.inl hc) (by simp -implicitDefEqProofs (disch := first | omega | (simp only [St.set_n, St.up_n, List.length_cons, List.length_nil]; omega)) only [go_sem, Nat.reduceAdd, Nat.reduceMul, Nat.reduceSub, Int.reduceAdd, Int.reduceMul, Int.reduceSub, Int.reduceNeg, Int.reduceToNat, h5]), h6⟩
  cases hok : (Y.tr a.x j).2 with
  | false =>
    rw [hok] at hI3 hK
    simp only [Bool.false_eq_true, if_false] at hI3 hK
    simp -implicitDefEqProofs (disch := first | omega | (simp only [St.set_n, St.up_n, List.length_cons, List.length_nil]; omega)) only [go_sem, Nat.reduceAdd, Nat.reduceMul, Nat.reduceSub, Int.reduceAdd, Int.reduceMul, Int.reduceSub, Int.reduceNeg, Int.reduceToNat]
    obtain ⟨σ'', hT2, hq2, hI4, hn4, hk4⟩ := inv_close (M := ⟨a.mv, (a.ca : Int) + 1, er, vs⟩) hI3 hG ⟨hr1, ⟨o11, Own.of' (sp := sp2) m21 (by omega) hc2 (by omega), trivial⟩, ha⟩
    refine ⟨σ'', hT2, hK vs σ'' hq2 hI4 (by omega) fun c y hc hcq hx => ?_⟩
    obtain ⟨h5, h6⟩ := hold1 c y hc hcq hx
    exact hk4 c y hcq h5 h6
  | true =>
    rw [hok] at hI3 hK
    simp only [if_true] at hI3 hK
    have hv1 : v'.oneCell' = true ∧ vc v' = #[v'] := by
      rcases hst with rfl | ⟨_, _, _, rfl⟩ <;> exact ⟨rfl, rfl⟩
    simp -implicitDefEqProofs (disch := first | omega | (simp only [St.set_n, St.up_n, List.length_cons, List.length_nil]; omega)) only [go_sem, Nat.reduceAdd, Nat.reduceMul, Nat.reduceSub, Int.reduceAdd, Int.reduceMul, Int.reduceSub, Int.reduceNeg, Int.reduceToNat, hr1]
    refine appE hws1 o11 se22 kd22 zr3 rfl (by omega) (ys := [.int .i64 j]) rfl rfl (by omega) fun A' C' s2 hC' o2' heq hb1 hn2 hws2 => ?_
    have hs1q := (hws1.2 _ _ hr1).2
    have hs1b := (hws1.2 _ _ m21).2
    have hb2m : blk (.slice A1 a.mv.length c1) ≠ some b2 := fun e => ha.2.1.1 b2 e rfl
    have r2 := (heq q hs1q ha.1).trans hr1
    have m22 := (heq b2 hs1b hb2m).trans m21
    have st : (vs ++ sp2).set j v' = vs.set j v' ++ sp2 := by rw [List.set_append_left _ _ (by omega)]
    simp -implicitDefEqProofs (disch := first | omega | (simp only [St.set_n, St.up_n, List.length_cons, List.length_nil]; omega)) only [go_sem, Nat.reduceAdd, Nat.reduceMul, Nat.reduceSub, Int.reduceAdd, Int.reduceMul, Int.reduceSub, Int.reduceNeg, Int.reduceToNat, r2, m22, hb2q, hjl, hv1.1, hv1.2, st]
    have hb1q : blk (.slice A' (a.mv.length + 1) C') ≠ some q := fun e => by
      rcases hb1 q e with h | h
      · omega
      · exact ha.1 h
    have hb1b : blk (.slice A' (a.mv.length + 1) C') ≠ some b2 := fun e => by
      rcases hb1 b2 e with h | h
      · omega
      · exact hb2m h
    have hI4 : Y.Inv (fun c => G c ∨ blk (.slice A' (a.mv.length + 1) C') = some c ∨ blk (.slice (some ⟨b2, 0, none⟩) vs.length c2) = some c ∨ blk (.slice A1 a.mv.length c1) = some c) (Y.tr a.x j).1 (vs.set j v') (s1.up s2.n) := by
      have hI3 := Y.stable hI3 (s' := s1.up s2.n) (fun c y _ hx => hx) hn2
      cases e1 : blk (.slice A' (a.mv.length + 1) C') with
      | none =>
        refine Y.weak hI3 fun c hc => ?_
        rcases hc with h | h | h | h
        · exact .inl h
        · cases h
        · exact .inr (.inr h)
        · exact .inr (.inl h)
      | some b' =>
        rcases hb1 b' e1 with h | h
        · have hno : s1.m b' = none := by
            cases hx : s1.m b' with
            | none => rfl
            | some y => have := (hws1.2 _ _ hx).2; omega
          have hlt2 : b' < s2.n := by
            obtain ⟨o, ho'⟩ := o2'.at_ e1
            exact (hws2.2 _ _ ho').2
          refine Y.weak (Y.fresh hI3 hno hlt2) fun c hc => ?_
          rcases hc with h | h | h | h
          · exact .inl (.inl h)
          · exact .inr (Option.some.inj h).symm
          · exact .inl (.inr (.inr h))
          · exact .inl (.inr (.inl h))
        · refine Y.weak hI3 fun c hc => ?_
          rcases hc with h' | h' | h' | h'
          · exact .inl h'
          · exact .inr (.inl (h.trans h'))
          · exact .inr (.inr h')
          · exact .inr (.inl h')
    have hkF : ∀ c y, c ≠ q → c ≠ b2 → c < s1.n → blk (.slice A1 a.mv.length c1) ≠ some c → s1.m c = some y → ((s2.set q (.raw (.cells #[.slice A' (a.mv.length + 1) C', .int .i64 (a.ca + 1), .int .i64 er, .slice (some ⟨b2, 0, none⟩) vs.length c2] 114 (0, 0)))).set b2 (.raw (.cells (vs.set j v' ++ sp2).toArray 50 (0, 0)))).m c = some y := fun c y h3 h4 h5 h6 hx => by
      have := (heq c h5 h6).trans hx
      simp -implicitDefEqProofs (disch := first | omega | (simp only [St.set_n, St.up_n, List.length_cons, List.length_nil]; omega)) only [go_sem, Nat.reduceAdd, Nat.reduceMul, Nat.reduceSub, Int.reduceAdd, Int.reduceMul, Int.reduceSub, Int.reduceNeg, Int.reduceToNat, this]
    have hI5 := Y.weak (Y.stable hI4 (s' := (s2.set q (.raw (.cells #[.slice A' (a.mv.length + 1) C', .int .i64 (a.ca + 1), .int .i64 er, .slice (some ⟨b2, 0, none⟩) vs.length c2] 114 (0, 0)))).set b2 (.raw (.cells (vs.set j v' ++ sp2).toArray 50 (0, 0)))) (fun c y hc hx => hkF c y (fun e => hc (.inl (e ▸ hG))) (fun e => hc (.inr (.inr (.inl (by rw [e]; rfl))))) (hws1.2 _ _ hx).2 (fun e => hc (.inr (.inr (.inr e)))) hx) (Nat.le_refl _))
      (G := fun c => G c ∨ blk (.slice A' (a.mv.length + 1) C') = some c ∨ blk (.slice (some ⟨b2, 0, none⟩) vs.length c2) = some c) fun c hc => by
        rcases hc with h | h | h
        · exact .inl h
        · exact .inr (.inl h)
        · exact .inr (.inr (.inl h))
    have hls : (vs.set j v').length = vs.length := List.length_set
    have hO : OpenO ((s2.set q (.raw (.cells #[.slice A' (a.mv.length + 1) C', .int .i64 (a.ca + 1), .int .i64 er, .slice (some ⟨b2, 0, none⟩) vs.length c2] 114 (0, 0)))).set b2 (.raw (.cells (vs.set j v' ++ sp2).toArray 50 (0, 0)))) q 114 (mRoot ((a.ca : Int) + 1) er) (spM ⟨a.mv ++ [(j : Int)], (a.ca : Int) + 1, er, vs.set j v'⟩) [.slice A' (a.mv.length + 1) C', .slice (some ⟨b2, 0, none⟩) vs.length c2] := by
      refine ⟨by simp -implicitDefEqProofs (disch := first | omega | (simp only [St.set_n, St.up_n, List.length_cons, List.length_nil]; omega)) only [go_sem, Nat.reduceAdd, Nat.reduceMul, Nat.reduceSub, Int.reduceAdd, Int.reduceMul, Int.reduceSub, Int.reduceNeg, Int.reduceToNat], ⟨?_, ?_, trivial⟩, ⟨hb1q, ⟨fun b hb hb' => ?_, trivial⟩, ha.2.2⟩⟩
      · show Own _ 3 1 (ints (a.mv ++ [(j : Int)])) (a.mv ++ [(j : Int)]).length _
        have hl1 : (a.mv ++ [(j : Int)]).length = a.mv.length + 1 := by simp
        rw [hl1, ints_append]
        refine o2'.keepR fun b o hb ho => ?_
        have h3 : b ≠ q := fun e => hb1q (e ▸ hb)
        have h4 : b ≠ b2 := fun e => hb1b (e ▸ hb)
        simp -implicitDefEqProofs (disch := first | omega | (simp only [St.set_n, St.up_n, List.length_cons, List.length_nil]; omega)) only [go_sem, Nat.reduceAdd, Nat.reduceMul, Nat.reduceSub, Int.reduceAdd, Int.reduceMul, Int.reduceSub, Int.reduceNeg, Int.reduceToNat, ho]
      · show Own _ 50 1 (vs.set j v') (vs.set j v').length _
        rw [hls]
        exact Own.of' (sp := sp2) (by simp -implicitDefEqProofs (disch := first | omega | (simp only [St.set_n, St.up_n, List.length_cons, List.length_nil]; omega)) only [go_sem, Nat.reduceAdd, Nat.reduceMul, Nat.reduceSub, Int.reduceAdd, Int.reduceMul, Int.reduceSub, Int.reduceNeg, Int.reduceToNat]) (by omega) hc2 (by simp only [List.length_append, hls] at l2 ⊢; omega)
      · simp only [blk, Option.some.injEq] at hb'
        exact hb1b (hb' ▸ hb)
    obtain ⟨σ'', hT2, hq2, hI6, hn4, hk4⟩ := inv_close (M := ⟨a.mv ++ [(j : Int)], (a.ca : Int) + 1, er, vs.set j v'⟩) hI5 hG hO
    refine ⟨σ'', hT2, hK _ σ'' hq2 hI6 (by simp only [St.set_n] at hn4; omega) fun c y hc hcq hx => ?_⟩
    obtain ⟨h5, h6⟩ := hold1 c y hc hcq hx
    have hcn := (hwf.2 _ _ (hk c y hcq hx).1).2
    have hcb : c ≠ b2 := fun e => h6.2.1 (by rw [e]; rfl)
    refine hk4 c y hcq (hkF c y hcq hcb (by omega) h6.1 h5) ⟨fun e => ?_, h6.2⟩
    rcases hb1 c e with h | h
    · omega
    · exact h6.1 h
end
end Go.Proofs.YtdbgeahmhfocaaaGreat

/- Threads that take turns: a round. -/
namespace Go.Proofs.YtdbgeahmhfocaaaGreat
set_option linter.unusedSimpArgs false
set_option linter.unusedVariables false
set_option maxRecDepth 100000
open Go Go.RowKit
namespace Sys
variable {B : World} {Y : Sys B}
theorem turn_len {a : Y.MA} {t : Int} (hf : fullA a = false) (h : a.mv.length ≤ 65536) : (turnA a t).1.mv.length ≤ 65536 := by
  unfold turnA
  split
  · rename_i hc
    simp only
    split
    · have : leftA a.x = true := List.any_eq_true.2 ⟨t.toNat, List.mem_range.2 (by omega), hc.2.2⟩
      unfold fullA at hf
      rw [this, Bool.and_true] at hf
      simp only [decide_eq_false_iff_not] at hf
      simp; omega
    · exact h
  · exact h
theorem turn_mono (a : Y.MA) (t : Int) : a.mv.length ≤ (turnA a t).1.mv.length ∧ ((turnA a t).2 = true → a.mv.length < (turnA a t).1.mv.length) ∧ (turnA a t).1.ca ≤ a.ca + 1 := by
  unfold turnA
  split
  · simp only
    split
    · simp
    · rename_i h; simp [h]
  · simp
theorem round_len {a : Y.MA} : ∀ (k i : Nat) (y : Bool), a.mv.length ≤ 65536 → (roundA a i y k).1.mv.length ≤ 65536
  | 0, _, _, h => h
  | k + 1, i, y, h => by
    unfold roundA
    split
    · exact h
    · rename_i hf
      exact round_len k (i + 1) _ (turn_len (by simpa using hf) h)
theorem round_mono {a : Y.MA} : ∀ (k i : Nat) (y : Bool), a.mv.length ≤ (roundA a i y k).1.mv.length ∧ ((roundA a i y k).2 = true → y = true ∨ a.mv.length < (roundA a i y k).1.mv.length) ∧ (roundA a i y k).1.ca ≤ a.ca + k
  | 0, _, y => ⟨Nat.le_refl _, fun h => .inl h, Nat.le_refl _⟩
  | k + 1, i, y => by
    unfold roundA
    split
    · exact ⟨Nat.le_refl _, fun h => (by cases h), by simp only; omega⟩
    · obtain ⟨h1, h2, h3⟩ := turn_mono a i
      obtain ⟨h4, h5, h6⟩ := round_mono (a := (turnA a i).1) k (i + 1) (y || (turnA a i).2)
      refine ⟨by omega, fun h => ?_, by omega⟩
      rcases h5 h with h7 | h7
      · rw [Bool.or_eq_true] at h7
        rcases h7 with h8 | h8
        · exact .inl h8
        · have := h2 h8; right; omega
      · right; omega
end Sys
section
variable {B : World} {σ τ : St} {K : Value → St → Prop}
/-- The machine of a system, folded. -/
structure Ms {B : World} (Y : Sys B) (G : Nat → Prop) (σ : St) (q : Nat) (er : Int) (a : Y.MA) (vs : List Value) (s : St) : Prop where
  m : s.m q = some (.comp (MaR ⟨a.mv, a.ca, er, vs⟩ q))
  I : Y.Inv G a.x vs s
  n : σ.n ≤ s.n
  old : ∀ c y, G c → c ≠ q → σ.m c = some y → s.m c = some y
theorem Ms.full {Y : Sys B} {G : Nat → Prop} {q : Nat} {er : Int} {a : Y.MA} {vs : List Value} {s : St} (h : Ms Y G σ q er a vs s) (hN : Y.n ≤ 1000) (hl : a.mv.length ≤ 65536) (hK : K (.bool (Sys.fullA a)) s) : Fn Tryz.prog B 40 #[.pointer (some ⟨q, 0, none⟩)] s K := by
  refine m_full h.m (by rw [show (MM.mk a.mv a.ca er vs).nx = vs from rfl, Y.len h.I]; omega) (by show a.mv.length ≤ 100000; omega) (vals_st h.I) ?_
  show K (.bool (decide (65536 ≤ a.mv.length) && vs.any isFn)) s
  rw [left_any h.I]; exact hK
theorem Ms.left {Y : Sys B} {G : Nat → Prop} {q : Nat} {er : Int} {a : Y.MA} {vs : List Value} {s : St} (h : Ms Y G σ q er a vs s) (hN : Y.n ≤ 1000) (hK : K (.bool (Sys.leftA a.x)) s) : Fn Tryz.prog B 42 #[.pointer (some ⟨q, 0, none⟩)] s K := by
  refine m_left h.m (by rw [show (MM.mk a.mv a.ca er vs).nx = vs from rfl, Y.len h.I]; omega) (vals_st h.I) ?_
  show K (.bool (vs.any isFn)) s
  rw [left_any h.I]; exact hK
theorem Ms.turn {Y : Sys B} {G : Nat → Prop} {q : Nat} {er : Int} {a : Y.MA} {vs : List Value} {s : St} (h : Ms Y G σ q er a vs s) (hG : G q) (hN : Y.n ≤ 1000) (hl : a.mv.length ≤ 65536) (hca : a.ca ≤ 1000000000) (t : Int)
    (hK : ∀ vs' s', Ms Y G σ q er (Sys.turnA a t).1 vs' s' → K (.bool (Sys.turnA a t).2) s') : Fn Tryz.prog B 41 #[.pointer (some ⟨q, 0, none⟩), .int .i64 t] s K :=
  m_turn hG h.m h.I hN (by omega) hca fun vs' s' h1 h2 h3 h4 => hK vs' s' ⟨h1, h2, Nat.le_trans h.n h3, fun c y hc hcq hx => h4 c y hc hcq (h.old c y hc hcq hx)⟩
structure RnI (q n i : Nat) (y : Bool) (e : Fr) : Prop where
  v0 : e.v 0 = .pointer (some ⟨q, 0, none⟩)
  v3 : e.v 3 = .bool y
  v9 : e.v 9 = .int .i64 n
  v10 : e.v 10 = .int .i64 i
  d : e.d = []
structure RnJ (y : Bool) (e : Fr) : Prop where
  v3 : e.v 3 = .bool y
  d : e.d = []
set_option maxHeartbeats 4000000 in
theorem m_round {Y : Sys B} {G : Nat → Prop} {σ0 : St} {q : Nat} {er : Int} {a : Y.MA} {vs : List Value} (h : Ms Y G σ0 q er a vs σ) (hG : G q) (hN : Y.n ≤ 1000) (hl : a.mv.length ≤ 65536) (hca : a.ca ≤ 999000000)
    (hK : ∀ vs' s', Ms Y G σ0 q er (Sys.roundA a 0 false Y.n).1 vs' s' → K (.bool (Sys.roundA a 0 false Y.n).2) s') : Fn Tryz.prog B 43 #[.pointer (some ⟨q, 0, none⟩)] σ K := by
  have hm := h.m
  have hlen := Y.len h.I
  refine Fn.openO hm is43.en fun vv τ hwf hn hr ho ha hk => ?_
  have hT : To B τ σ := by
    have := To.closeO (B := B) (σ := σ) vv hr ho ha hk
    rw [St.set_same hm, hn] at this
    exact this
  obtain ⟨v1, v2, rfl, o1, o2⟩ := ho.two
  simp only at o1 o2
  obtain ⟨A2, c2, rfl, _⟩ := o2.is
  simp only [mRoot_two] at hr
  refine Fn.ofS is43 (by simp) fun _ => ?_
  simp only [b43, Tryz.f43, Option.getD_some]
  refine SemS.seqw fun _ => ?_
  simp -implicitDefEqProofs (disch := first | omega | (simp only [St.set_n, St.up_n, List.length_cons, List.length_nil]; omega)) only [go_sem, Nat.reduceAdd, Nat.reduceMul, Nat.reduceSub, Int.reduceAdd, Int.reduceMul, Int.reduceSub, Int.reduceNeg, Int.reduceToNat]
  refine SemS.seqw fun _ => ?_
  simp -implicitDefEqProofs (disch := first | omega | (simp only [St.set_n, St.up_n, List.length_cons, List.length_nil]; omega)) only [go_sem, Nat.reduceAdd, Nat.reduceMul, Nat.reduceSub, Int.reduceAdd, Int.reduceMul, Int.reduceSub, Int.reduceNeg, Int.reduceToNat]
  refine SemS.seq (fun e s => ∃ vs', RnJ (Sys.roundA a 0 false Y.n).2 e ∧ Ms Y G σ0 q er (Sys.roundA a 0 false Y.n).1 vs' s) ?_ ?_
  · refine SemS.seqw fun _ => ?_
    simp -implicitDefEqProofs (disch := first | omega | (simp only [St.set_n, St.up_n, List.length_cons, List.length_nil]; omega)) only [go_sem, Nat.reduceAdd, Nat.reduceMul, Nat.reduceSub, Int.reduceAdd, Int.reduceMul, Int.reduceSub, Int.reduceNeg, Int.reduceToNat, hr]
    rw [hlen]
    refine SemS.block (SemS.from hT ?_)
    refine SemS.loop (fun m e s => ∃ (i : Nat) (a' : Y.MA) (y : Bool) (vs' : List Value), m = Y.n - i ∧ i ≤ Y.n ∧ RnI q Y.n i y e ∧ Ms Y G σ0 q er a' vs' s ∧ Sys.roundA a' i y (Y.n - i) = Sys.roundA a 0 false Y.n ∧ a'.mv.length ≤ 65536 ∧ a'.ca ≤ a.ca + i) Y.n ?_ ?_
    · exact ⟨0, a, false, vs, by omega, by omega, ⟨by simp -implicitDefEqProofs (disch := first | omega | (simp only [St.set_n, St.up_n, List.length_cons, List.length_nil]; omega)) only [go_sem, Nat.reduceAdd, Nat.reduceMul, Nat.reduceSub, Int.reduceAdd, Int.reduceMul, Int.reduceSub, Int.reduceNeg, Int.reduceToNat], by simp -implicitDefEqProofs (disch := first | omega | (simp only [St.set_n, St.up_n, List.length_cons, List.length_nil]; omega)) only [go_sem, Nat.reduceAdd, Nat.reduceMul, Nat.reduceSub, Int.reduceAdd, Int.reduceMul, Int.reduceSub, Int.reduceNeg, Int.reduceToNat], by simp -implicitDefEqProofs (disch := first | omega | (simp only [St.set_n, St.up_n, List.length_cons, List.length_nil]; omega)) only [go_sem, Nat.reduceAdd, Nat.reduceMul, Nat.reduceSub, Int.reduceAdd, Int.reduceMul, Int.reduceSub, Int.reduceNeg, Int.reduceToNat], by simp -implicitDefEqProofs (disch := first | omega | (simp only [St.set_n, St.up_n, List.length_cons, List.length_nil]; omega)) only [go_sem, Nat.reduceAdd, Nat.reduceMul, Nat.reduceSub, Int.reduceAdd, Int.reduceMul, Int.reduceSub, Int.reduceNeg, Int.reduceToNat]; rfl, by simp -implicitDefEqProofs (disch := first | omega | (simp only [St.set_n, St.up_n, List.length_cons, List.length_nil]; omega)) only [go_sem, Nat.reduceAdd, Nat.reduceMul, Nat.reduceSub, Int.reduceAdd, Int.reduceMul, Int.reduceSub, Int.reduceNeg, Int.reduceToNat]⟩, h, rfl, hl, by omega⟩
    rintro m e s hws ⟨i, a', y, vs', hm', hi, ⟨q0, q3, q9, q10, hd⟩, hM, hR, hl', hca'⟩
    refine SemS.wp fun _ => ?_
    by_cases hlt : (i : Int) < Y.n
    · have hk' : Y.n - i = (Y.n - (i + 1)) + 1 := by omega
      rw [hk', Sys.roundA] at hR
      simp -implicitDefEqProofs (disch := first | omega | (simp only [St.set_n, St.up_n, List.length_cons, List.length_nil]; omega)) only [go_sem, Nat.reduceAdd, Nat.reduceMul, Nat.reduceSub, Int.reduceAdd, Int.reduceMul, Int.reduceSub, Int.reduceNeg, Int.reduceToNat, q0, q9, q10, hlt]
      refine callF_of (hM.full hN hl' ?_)
      cases hf : Sys.fullA a' with
      | true =>
        rw [hf] at hR
        simp only [if_true] at hR
        simp -implicitDefEqProofs (disch := first | omega | (simp only [St.set_n, St.up_n, List.length_cons, List.length_nil]; omega)) only [go_sem, Nat.reduceAdd, Nat.reduceMul, Nat.reduceSub, Int.reduceAdd, Int.reduceMul, Int.reduceSub, Int.reduceNeg, Int.reduceToNat, hd]
        refine ⟨_, To.refl _ _, ?_⟩
        have := hK vs' s
        rw [← hR] at this
        exact this hM
      | false =>
        rw [hf] at hR
        simp only [Bool.false_eq_true, if_false] at hR
        have hl2 := Sys.turn_len (t := i) hf hl'
        have hc2 := (Sys.turn_mono a' i).2.2
        simp -implicitDefEqProofs (disch := first | omega | (simp only [St.set_n, St.up_n, List.length_cons, List.length_nil]; omega)) only [go_sem, Nat.reduceAdd, Nat.reduceMul, Nat.reduceSub, Int.reduceAdd, Int.reduceMul, Int.reduceSub, Int.reduceNeg, Int.reduceToNat, q0]
        refine callF_of (hM.turn hG hN hl' (by omega) i fun vs2 s2 hM2 => ?_)
        cases hok : (Sys.turnA a' i).2 with
        | true =>
          rw [hok, Bool.or_true] at hR
          simp -implicitDefEqProofs (disch := first | omega | (simp only [St.set_n, St.up_n, List.length_cons, List.length_nil]; omega)) only [go_sem, Nat.reduceAdd, Nat.reduceMul, Nat.reduceSub, Int.reduceAdd, Int.reduceMul, Int.reduceSub, Int.reduceNeg, Int.reduceToNat, q10]
          exact ⟨Y.n - (i + 1), by omega, _, To.refl _ _, i + 1, (Sys.turnA a' i).1, true, vs2, rfl, by omega, ⟨by simp -implicitDefEqProofs (disch := first | omega | (simp only [St.set_n, St.up_n, List.length_cons, List.length_nil]; omega)) only [go_sem, Nat.reduceAdd, Nat.reduceMul, Nat.reduceSub, Int.reduceAdd, Int.reduceMul, Int.reduceSub, Int.reduceNeg, Int.reduceToNat, q0], by simp -implicitDefEqProofs (disch := first | omega | (simp only [St.set_n, St.up_n, List.length_cons, List.length_nil]; omega)) only [go_sem, Nat.reduceAdd, Nat.reduceMul, Nat.reduceSub, Int.reduceAdd, Int.reduceMul, Int.reduceSub, Int.reduceNeg, Int.reduceToNat], by simp -implicitDefEqProofs (disch := first | omega | (simp only [St.set_n, St.up_n, List.length_cons, List.length_nil]; omega)) only [go_sem, Nat.reduceAdd, Nat.reduceMul, Nat.reduceSub, Int.reduceAdd, Int.reduceMul, Int.reduceSub, Int.reduceNeg, Int.reduceToNat, q9], by simp -implicitDefEqProofs (disch := first | omega | (simp only [St.set_n, St.up_n, List.length_cons, List.length_nil]; omega)) only [go_sem, Nat.reduceAdd, Nat.reduceMul, Nat.reduceSub, Int.reduceAdd, Int.reduceMul, Int.reduceSub, Int.reduceNeg, Int.reduceToNat]; rfl, by simp -implicitDefEqProofs (disch := first | omega | (simp only [St.set_n, St.up_n, List.length_cons, List.length_nil]; omega)) only [go_sem, Nat.reduceAdd, Nat.reduceMul, Nat.reduceSub, Int.reduceAdd, Int.reduceMul, Int.reduceSub, Int.reduceNeg, Int.reduceToNat, hd]⟩, hM2, hR, hl2, by omega⟩
        | false =>
          rw [hok, Bool.or_false] at hR
          simp -implicitDefEqProofs (disch := first | omega | (simp only [St.set_n, St.up_n, List.length_cons, List.length_nil]; omega)) only [go_sem, Nat.reduceAdd, Nat.reduceMul, Nat.reduceSub, Int.reduceAdd, Int.reduceMul, Int.reduceSub, Int.reduceNeg, Int.reduceToNat, q10]
          exact ⟨Y.n - (i + 1), by omega, _, To.refl _ _, i + 1, (Sys.turnA a' i).1, y, vs2, rfl, by omega, ⟨by simp -implicitDefEqProofs (disch := first | omega | (simp only [St.set_n, St.up_n, List.length_cons, List.length_nil]; omega)) only [go_sem, Nat.reduceAdd, Nat.reduceMul, Nat.reduceSub, Int.reduceAdd, Int.reduceMul, Int.reduceSub, Int.reduceNeg, Int.reduceToNat, q0], by simp -implicitDefEqProofs (disch := first | omega | (simp only [St.set_n, St.up_n, List.length_cons, List.length_nil]; omega)) only [go_sem, Nat.reduceAdd, Nat.reduceMul, Nat.reduceSub, Int.reduceAdd, Int.reduceMul, Int.reduceSub, Int.reduceNeg, Int.reduceToNat, q3], by simp -implicitDefEqProofs (disch := first | omega | (simp only [St.set_n, St.up_n, List.length_cons, List.length_nil]; omega)) only [go_sem, Nat.reduceAdd, Nat.reduceMul, Nat.reduceSub, Int.reduceAdd, Int.reduceMul, Int.reduceSub, Int.reduceNeg, Int.reduceToNat, q9], by simp -implicitDefEqProofs (disch := first | omega | (simp only [St.set_n, St.up_n, List.length_cons, List.length_nil]; omega)) only [go_sem, Nat.reduceAdd, Nat.reduceMul, Nat.reduceSub, Int.reduceAdd, Int.reduceMul, Int.reduceSub, Int.reduceNeg, Int.reduceToNat]; rfl, by simp -implicitDefEqProofs (disch := first | omega | (simp only [St.set_n, St.up_n, List.length_cons, List.length_nil]; omega)) only [go_sem, Nat.reduceAdd, Nat.reduceMul, Nat.reduceSub, Int.reduceAdd, Int.reduceMul, Int.reduceSub, Int.reduceNeg, Int.reduceToNat, hd]⟩, hM2, hR, hl2, by omega⟩
    · have hin : i = Y.n := by omega
      subst hin
      rw [Nat.sub_self, Sys.roundA] at hR
      simp -implicitDefEqProofs (disch := first | omega | (simp only [St.set_n, St.up_n, List.length_cons, List.length_nil]; omega)) only [go_sem, Nat.reduceAdd, Nat.reduceMul, Nat.reduceSub, Int.reduceAdd, Int.reduceMul, Int.reduceSub, Int.reduceNeg, Int.reduceToNat, q9, q10, hlt]
      rw [← hR]
      exact ⟨_, To.refl _ _, vs', ⟨by simp -implicitDefEqProofs (disch := first | omega | (simp only [St.set_n, St.up_n, List.length_cons, List.length_nil]; omega)) only [go_sem, Nat.reduceAdd, Nat.reduceMul, Nat.reduceSub, Int.reduceAdd, Int.reduceMul, Int.reduceSub, Int.reduceNeg, Int.reduceToNat, q3], by simp -implicitDefEqProofs (disch := first | omega | (simp only [St.set_n, St.up_n, List.length_cons, List.length_nil]; omega)) only [go_sem, Nat.reduceAdd, Nat.reduceMul, Nat.reduceSub, Int.reduceAdd, Int.reduceMul, Int.reduceSub, Int.reduceNeg, Int.reduceToNat, hd]⟩, hM⟩
  · rintro e s hws ⟨vs', ⟨q3, hd⟩, hM⟩
    refine SemS.wp fun _ => ?_
    simp -implicitDefEqProofs (disch := first | omega | (simp only [St.set_n, St.up_n, List.length_cons, List.length_nil]; omega)) only [go_sem, Nat.reduceAdd, Nat.reduceMul, Nat.reduceSub, Int.reduceAdd, Int.reduceMul, Int.reduceSub, Int.reduceNeg, Int.reduceToNat, q3, hd]
    exact ⟨_, To.refl _ _, hK vs' s hM⟩
end
end Go.Proofs.YtdbgeahmhfocaaaGreat

/- Threads that take turns: 'Run'. -/
namespace Go.Proofs.YtdbgeahmhfocaaaGreat
set_option linter.unusedSimpArgs false
set_option linter.unusedVariables false
set_option maxRecDepth 100000
open Go Go.RowKit
theorem SemS.scope {P : Program} {B : World} {n : Nat} {c : Code} {Q : Exit → Fr → St → Prop} {e : Fr} {σ : St} (h : SemS P B none n c (noGotoQ Q) e σ) : SemS P B none n (.scope c) Q e σ := by
  intro hmix hok a w ha hw
  have h1 := h hmix hok a w ha hw
  have h2 : c.wp P (Exit.noGoto fun x a' w' => ∃ e' σ', Is a' n e' ∧ Rel B w' σ' ∧ Q x e' σ') a w := by
    refine wpIn_wide.1 (wpIn_mono (F := Fence.wide) (n := 0) h1 ?_)
    rintro ex a' w' ⟨e', σ', ha', hw', hq⟩
    cases ex with
    | goto l => exact hq.elim
    | _ => exact ⟨e', σ', ha', hw', hq⟩
  exact wpIn_wide.2 (wp_scope_straight h2)
section
variable {B : World} {σ τ : St} {K : Value → St → Prop}
def RInt (x : Int) (cs : List Value) : Prop := cs = [.int .i64 x]
theorem ones_st {vs : List Value} (hv : ∀ u ∈ vs, StV u) : vs.all Value.oneCell' = true := by
  rw [List.all_eq_true]
  intro x hx
  rcases hv x hx with rfl | ⟨_, _, _, rfl⟩ <;> rfl
/-- A slice of steps, or of functions, that can be read whole. -/
structure FcV (B : World) (σ : St) (vs : List Value) (v : Value) : Prop where
  is : ∃ a cap, v = .slice a vs.length cap
  fc : fc B σ 1 v = some (vs.length, vs)
set_option maxHeartbeats 4000000 in
theorem st_clone {vs : List Value} {v : Value} (hl : vs.length ≤ 100000) (hv : ∀ u ∈ vs, StV u) (ho : FcV B σ vs v) (hk0 : ∀ k s, s = (σ.set σ.n k).up (σ.n + 1) → fc B s 1 v = some (vs.length, vs))
    (hK : ∀ v' s, Own s 50 1 vs vs.length v' → (∀ c, c < σ.n → s.m c = σ.m c) → σ.n ≤ s.n → (∀ b, blk v' = some b → σ.n ≤ b) → K v' s) : Fn Tryz.prog B 39 #[v] σ K := by
  obtain ⟨⟨A, c, rfl⟩, hfc⟩ := ho
  refine Fn.of is39 (by simp) fun hwf => ?_
  simp only [b39, Tryz.f39, Option.getD_some]
  cases A with
  | none =>
    simp -implicitDefEqProofs (disch := first | omega | (simp only [St.set_n, St.up_n, List.length_cons, List.length_nil]; omega)) only [go_sem, Nat.reduceAdd, Nat.reduceMul, Nat.reduceSub, Int.reduceAdd, Int.reduceMul, Int.reduceSub, Int.reduceNeg, Int.reduceToNat]
    simp only [fc, Option.some.injEq, Prod.mk.injEq, true_and] at hfc
    subst hfc
    exact hK _ _ Own.nil (fun c hc => rfl) (Nat.le_refl _) (fun b hb => by cases hb)
  | some ad =>
    simp -implicitDefEqProofs (disch := first | omega | (simp only [St.set_n, St.up_n, List.length_cons, List.length_nil]; omega)) only [go_sem, Nat.reduceAdd, Nat.reduceMul, Nat.reduceSub, Int.reduceAdd, Int.reduceMul, Int.reduceSub, Int.reduceNeg, Int.reduceToNat]
    refine app_own2 se45 (.inr kd45) zr50 rfl (by omega) (cs := []) (n := 0) (Own.of' (sp := []) (by simp -implicitDefEqProofs (disch := first | omega | (simp only [St.set_n, St.up_n, List.length_cons, List.length_nil]; omega)) only [go_sem, Nat.reduceAdd, Nat.reduceMul, Nat.reduceSub, Int.reduceAdd, Int.reduceMul, Int.reduceSub, Int.reduceNeg, Int.reduceToNat]) rfl (Nat.le_refl _) rfl) (hk0 _ _ rfl) (by omega) (ones_st hv) (by omega) fun v' s h1 h2 h3 h4 => ?_
    simp only [St.up_n, Nat.zero_add, List.nil_append] at h1 h2 h4
    simp -implicitDefEqProofs (disch := first | omega | (simp only [St.set_n, St.up_n, List.length_cons, List.length_nil]; omega)) only [go_sem, Nat.reduceAdd, Nat.reduceMul, Nat.reduceSub, Int.reduceAdd, Int.reduceMul, Int.reduceSub, Int.reduceNeg, Int.reduceToNat]
    have hb : ∀ b, blk v' = some b → σ.n ≤ b := fun b hb => by
      rcases h2 b hb with h | h
      · omega
      · simp only [blk, Option.some.injEq] at h; omega
    refine hK _ _ h1 (fun c hc => ?_) (by omega) hb
    have hne : blk v' ≠ some c := fun e => by have := hb c e; omega
    rw [h3 c hne]
    simp -implicitDefEqProofs (disch := first | omega | (simp only [St.set_n, St.up_n, List.length_cons, List.length_nil]; omega)) only [go_sem, Nat.reduceAdd, Nat.reduceMul, Nat.reduceSub, Int.reduceAdd, Int.reduceMul, Int.reduceSub, Int.reduceNeg, Int.reduceToNat]
structure PkI (x4 q n cap i : Nat) (A : Option Addr) (e : Fr) : Prop where
  v4 : e.v 4 = .pointer (some ⟨x4, 0, none⟩)
  v5 : e.v 5 = .pointer (some ⟨q, 0, none⟩)
  v12 : e.v 12 = .slice A n cap
  v13 : e.v 13 = .int .i64 n
  v14 : e.v 14 = .int .i64 i
  d : e.d = []
structure PkJ (x4 q : Nat) (e : Fr) : Prop where
  v4 : e.v 4 = .pointer (some ⟨x4, 0, none⟩)
  v5 : e.v 5 = .pointer (some ⟨q, 0, none⟩)
  d : e.d = []
structure VB (bb : Bool) (e : Fr) : Prop where
  v26 : e.v 26 = .bool bb
structure Bx (x4 : Nat) (s : St) : Prop where
  m : s.m x4 = some (.raw (.cells #[.slice none 0 0, .int .i64 0, .int .i64 0] 54 (0, 0)))
set_option maxHeartbeats 8000000 in
theorem m_run {Y : Sys B} {G : Nat → Prop} {x0 : Y.X} {vs : List Value} {picks : List Int} {pv tv : Value} (hI : Y.Inv G x0 vs σ) (hN : Y.n ≤ 1000) (hpl : picks.length ≤ 1000000) (ht : FcV B σ vs tv)
    (hk0 : ∀ s, (∀ c, c < σ.n → s.m c = σ.m c) → fc B s 1 tv = some (vs.length, vs)) (hp : SlR B 1 RInt picks pv) {R : Y.MA × Int} (hR : Sys.loopA 70000 (Sys.picksA ⟨x0, [], 0⟩ picks) = R)
    (hK : ∀ mv vs' s, Own s 3 1 (ints R.1.mv) R.1.mv.length mv → Y.Inv G R.1.x vs' s → σ.n ≤ s.n → (∀ c y, G c → σ.m c = some y → s.m c = some y) → K (.agg #[mv, .int .i64 R.1.ca, .int .i64 R.2]) s) :
    Fn Tryz.prog B 13 #[pv, tv] σ K := by
  obtain ⟨a, cap, rfl, hlc, hcm, hnil, hat⟩ := hp
  have hlen := Y.len hI
  obtain ⟨⟨At, ct, rfl⟩, hfc⟩ := ht
  refine Fn.ofS is13 (by simp) fun hwf => ?_
  have hB := hwf.1
  simp only [b13, Tryz.f13, Option.getD_some]
  refine SemS.seqw fun _ => ?_
  simp -implicitDefEqProofs (disch := first | omega | (simp only [St.set_n, St.up_n, List.length_cons, List.length_nil]; omega)) only [go_sem, Nat.reduceAdd, Nat.reduceMul, Nat.reduceSub, Int.reduceAdd, Int.reduceMul, Int.reduceSub, Int.reduceNeg, Int.reduceToNat]
  refine SemS.scope ?_
  refine SemS.seqw fun hw1 => ?_
  simp -implicitDefEqProofs (disch := first | omega | (simp only [St.set_n, St.up_n, List.length_cons, List.length_nil]; omega)) only [go_sem, Nat.reduceAdd, Nat.reduceMul, Nat.reduceSub, Int.reduceAdd, Int.reduceMul, Int.reduceSub, Int.reduceNeg, Int.reduceToNat]
  refine callF_wf (st_clone (by omega) (vals_st hI) ⟨⟨_, _, rfl⟩, hk0 _ fun c hc => by simp -implicitDefEqProofs (disch := first | omega | (simp only [St.set_n, St.up_n, List.length_cons, List.length_nil]; omega)) only [go_sem, Nat.reduceAdd, Nat.reduceMul, Nat.reduceSub, Int.reduceAdd, Int.reduceMul, Int.reduceSub, Int.reduceNeg, Int.reduceToNat]⟩ (fun k s hs => hk0 s fun c hc => by subst hs; simp only [St.up_n]; simp -implicitDefEqProofs (disch := first | omega | (simp only [St.set_n, St.up_n, List.length_cons, List.length_nil]; omega)) only [go_sem, Nat.reduceAdd, Nat.reduceMul, Nat.reduceSub, Int.reduceAdd, Int.reduceMul, Int.reduceSub, Int.reduceNeg, Int.reduceToNat]) fun v' s o1 hold hn hb hws => ?_)
  obtain ⟨A1, c1, rfl, _⟩ := o1.is
  simp only [St.up_n] at hold hn hb
  simp -implicitDefEqProofs (disch := first | omega | (simp only [St.set_n, St.up_n, List.length_cons, List.length_nil]; omega)) only [go_sem, Nat.reduceAdd, Nat.reduceMul, Nat.reduceSub, Int.reduceAdd, Int.reduceMul, Int.reduceSub, Int.reduceNeg, Int.reduceToNat]
  obtain ⟨σ1, hσ1⟩ : ∃ σ1, σ1 = (σ.set σ.n (.raw (.cells #[.slice none 0 0, .int .i64 0, .int .i64 0] 54 (0, 0)))).up (σ.n + 1) := ⟨_, rfl⟩
  have hn1 : σ1.n = σ.n + 1 := by rw [hσ1]; rfl
  rw [← hσ1] at hold hw1
  have hx4 : σ1.m σ.n = some (.raw (.cells #[.slice none 0 0, .int .i64 0, .int .i64 0] 54 (0, 0))) := by rw [hσ1]; simp -implicitDefEqProofs (disch := first | omega | (simp only [St.set_n, St.up_n, List.length_cons, List.length_nil]; omega)) only [go_sem, Nat.reduceAdd, Nat.reduceMul, Nat.reduceSub, Int.reduceAdd, Int.reduceMul, Int.reduceSub, Int.reduceNeg, Int.reduceToNat]
  have hk1 : ∀ c, c < σ.n → σ1.m c = σ.m c := fun c hc => by rw [hσ1]; simp -implicitDefEqProofs (disch := first | omega | (simp only [St.set_n, St.up_n, List.length_cons, List.length_nil]; omega)) only [go_sem, Nat.reduceAdd, Nat.reduceMul, Nat.reduceSub, Int.reduceAdd, Int.reduceMul, Int.reduceSub, Int.reduceNeg, Int.reduceToNat]
  have hqn : s.n ≠ σ.n := by omega
  have hq0 : σ1.m s.n = none := by
    cases hx : σ1.m s.n with
    | none => rfl
    | some y => have := (hw1.2 _ _ hx).2; omega
  have hnn : σ.m σ.n = none := by
    cases hx : σ.m σ.n with
    | none => rfl
    | some y => have := (hwf.2 _ _ hx).2; omega
  have hI1 : Y.Inv (fun c => (G c ∨ c = σ.n) ∨ c = s.n) x0 vs (σ1.up (s.n + 1)) := Y.fresh (Y.stable (Y.fresh (Y.stable hI (s' := σ.up (σ.n + 1)) (fun c y _ hx => hx) (by simp only [St.up_n]; omega)) hnn (by simp only [St.up_n]; omega)) (fun c y _ hx => (hk1 c (hwf.2 _ _ hx).2).trans hx) (by simp only [St.up_n]; omega)) hq0 (by simp only [St.up_n]; omega)
  have hG2 : (fun c => (G c ∨ c = σ.n) ∨ c = s.n) s.n := .inr rfl
  have hT : To B ((s.set s.n (.raw (.cells #[.slice none 0 0, .int .i64 0, .int .i64 0, .slice A1 vs.length c1] 114 (0, 0)))).up (s.n + 1)) ((σ1.set s.n (.comp (MaR ⟨[], (0 : Nat), 0, vs⟩ s.n))).up (s.n + 1)) := by
    have hbs : blk (.slice A1 vs.length c1) ≠ some s.n := fun e => by
      obtain ⟨o, ho⟩ := o1.at_ e
      have := (hws.2 _ _ ho).2; omega
    have hroot : ((s.set s.n (.raw (.cells #[.slice none 0 0, .int .i64 0, .int .i64 0, .slice A1 vs.length c1] 114 (0, 0)))).up (s.n + 1)).m s.n = some (.raw (.cells (mRoot ((0 : Nat) : Int) 0 [.slice none 0 0, .slice A1 vs.length c1]).toArray 114 (0, 0))) := by
      simp only [St.up_m, St.set_m_same]; rfl
    refine To.closeO (σ := σ1) [.slice none 0 0, .slice A1 vs.length c1] hroot ⟨Own.nil, o1.keepR fun b o hb' ho => ?_, trivial⟩ ⟨by simp [Off, blk], ⟨by simp [Dis, blk], trivial⟩, hbs, trivial, trivial⟩ fun c y hc hx => ?_
    · have : b ≠ s.n := fun e => hbs (e ▸ hb')
      simp -implicitDefEqProofs (disch := first | omega | (simp only [St.set_n, St.up_n, List.length_cons, List.length_nil]; omega)) only [go_sem, Nat.reduceAdd, Nat.reduceMul, Nat.reduceSub, Int.reduceAdd, Int.reduceMul, Int.reduceSub, Int.reduceNeg, Int.reduceToNat, ho]
    · have hcn := (hw1.2 _ _ hx).2
      have := (hold c (by omega)).trans hx
      refine ⟨by simp -implicitDefEqProofs (disch := first | omega | (simp only [St.set_n, St.up_n, List.length_cons, List.length_nil]; omega)) only [go_sem, Nat.reduceAdd, Nat.reduceMul, Nat.reduceSub, Int.reduceAdd, Int.reduceMul, Int.reduceSub, Int.reduceNeg, Int.reduceToNat, this], by simp [Off, blk], fun e => ?_, trivial⟩
      have := hb c e
      omega
  refine SemS.from hT ?_
  have hM0 : Ms Y (fun c => (G c ∨ c = σ.n) ∨ c = s.n) σ1 s.n 0 ⟨x0, [], 0⟩ vs ((σ1.set s.n (.comp (MaR ⟨[], (0 : Nat), 0, vs⟩ s.n))).up (s.n + 1)) :=
    ⟨by simp -implicitDefEqProofs (disch := first | omega | (simp only [St.set_n, St.up_n, List.length_cons, List.length_nil]; omega)) only [go_sem, Nat.reduceAdd, Nat.reduceMul, Nat.reduceSub, Int.reduceAdd, Int.reduceMul, Int.reduceSub, Int.reduceNeg, Int.reduceToNat], Y.stable hI1 (fun c y hc hx => by have : c ≠ s.n := fun e => hc (.inr e); have hx' : σ1.m c = some y := hx; simp -implicitDefEqProofs (disch := first | omega | (simp only [St.set_n, St.up_n, List.length_cons, List.length_nil]; omega)) only [go_sem, Nat.reduceAdd, Nat.reduceMul, Nat.reduceSub, Int.reduceAdd, Int.reduceMul, Int.reduceSub, Int.reduceNeg, Int.reduceToNat, hx']) (by simp only [St.up_n]; omega), by simp only [St.up_n]; omega, fun c y _ hc hx => by simp -implicitDefEqProofs (disch := first | omega | (simp only [St.set_n, St.up_n, List.length_cons, List.length_nil]; omega)) only [go_sem, Nat.reduceAdd, Nat.reduceMul, Nat.reduceSub, Int.reduceAdd, Int.reduceMul, Int.reduceSub, Int.reduceNeg, Int.reduceToNat, hx]⟩
  generalize (σ1.set s.n (.comp (MaR ⟨[], (0 : Nat), 0, vs⟩ s.n))).up (s.n + 1) = s2 at hM0 ⊢
  generalize s.n = q at hM0 hG2 hqn hq0 ⊢
  obtain ⟨Pk, hPk⟩ : ∃ Pk, Pk = Sys.picksA ⟨x0, [], 0⟩ picks := ⟨_, rfl⟩
  rw [← hPk] at hR
  refine SemS.seq (fun e s => ∃ vs', PkJ σ.n q e ∧ Ms Y (fun c => (G c ∨ c = σ.n) ∨ c = q) σ1 q 0 Pk vs' s ∧ Pk.mv.length ≤ 65536 ∧ Pk.ca ≤ picks.length) ?_ ?_
  · refine SemS.seqw fun _ => ?_
    simp -implicitDefEqProofs (disch := first | omega | (simp only [St.set_n, St.up_n, List.length_cons, List.length_nil]; omega)) only [go_sem, Nat.reduceAdd, Nat.reduceMul, Nat.reduceSub, Int.reduceAdd, Int.reduceMul, Int.reduceSub, Int.reduceNeg, Int.reduceToNat]
    refine SemS.block (SemS.loop (fun m e s => ∃ (i : Nat) (a' : Y.MA) (vs' : List Value), m = picks.length - i ∧ i ≤ picks.length ∧ PkI σ.n q picks.length cap i a e ∧ Ms Y (fun c => (G c ∨ c = σ.n) ∨ c = q) σ1 q 0 a' vs' s ∧ Sys.picksA a' (picks.drop i) = Pk ∧ a'.mv.length ≤ 65536 ∧ a'.ca ≤ i) picks.length ?_ ?_)
    · exact ⟨0, _, vs, by omega, by omega, ⟨by simp -implicitDefEqProofs (disch := first | omega | (simp only [St.set_n, St.up_n, List.length_cons, List.length_nil]; omega)) only [go_sem, Nat.reduceAdd, Nat.reduceMul, Nat.reduceSub, Int.reduceAdd, Int.reduceMul, Int.reduceSub, Int.reduceNeg, Int.reduceToNat], by simp -implicitDefEqProofs (disch := first | omega | (simp only [St.set_n, St.up_n, List.length_cons, List.length_nil]; omega)) only [go_sem, Nat.reduceAdd, Nat.reduceMul, Nat.reduceSub, Int.reduceAdd, Int.reduceMul, Int.reduceSub, Int.reduceNeg, Int.reduceToNat], by simp -implicitDefEqProofs (disch := first | omega | (simp only [St.set_n, St.up_n, List.length_cons, List.length_nil]; omega)) only [go_sem, Nat.reduceAdd, Nat.reduceMul, Nat.reduceSub, Int.reduceAdd, Int.reduceMul, Int.reduceSub, Int.reduceNeg, Int.reduceToNat], by simp -implicitDefEqProofs (disch := first | omega | (simp only [St.set_n, St.up_n, List.length_cons, List.length_nil]; omega)) only [go_sem, Nat.reduceAdd, Nat.reduceMul, Nat.reduceSub, Int.reduceAdd, Int.reduceMul, Int.reduceSub, Int.reduceNeg, Int.reduceToNat], by simp -implicitDefEqProofs (disch := first | omega | (simp only [St.set_n, St.up_n, List.length_cons, List.length_nil]; omega)) only [go_sem, Nat.reduceAdd, Nat.reduceMul, Nat.reduceSub, Int.reduceAdd, Int.reduceMul, Int.reduceSub, Int.reduceNeg, Int.reduceToNat]; rfl, by simp -implicitDefEqProofs (disch := first | omega | (simp only [St.set_n, St.up_n, List.length_cons, List.length_nil]; omega)) only [go_sem, Nat.reduceAdd, Nat.reduceMul, Nat.reduceSub, Int.reduceAdd, Int.reduceMul, Int.reduceSub, Int.reduceNeg, Int.reduceToNat]⟩, hM0, by rw [List.drop_zero, hPk], Nat.zero_le _, Nat.zero_le _⟩
    rintro m e s3 hws3 ⟨i, a', vs', hm', hi, ⟨q4, q5, q12, q13, q14, hd⟩, hM, hPi, hl', hca'⟩
    refine SemS.wp fun _ => ?_
    by_cases hlt : (i : Int) < picks.length
    · obtain ⟨x, hx⟩ : ∃ x, picks[i]? = some x := ⟨picks[i]'(by omega), List.getElem?_eq_getElem (by omega)⟩
      obtain ⟨b, o, cs, rfl, hbb, hRx, hsz, hcell⟩ := hat i x hx
      simp only [RInt] at hRx
      subst hRx
      have c0 : B.cell? ⟨b, o + i * 1, none⟩ = _ := hcell 0 _ rfl
      rw [Nat.mul_one] at c0
      have hsb : s3.m b = none := by
        cases hx : s3.m b with
        | none => rfl
        | some y => have := (hws3.2 _ _ hx).1; omega
      have hdr : picks.drop i = x :: picks.drop (i + 1) := by
        rw [List.drop_eq_getElem_cons (by omega)]
        rw [List.getElem?_eq_getElem (by omega)] at hx
        rw [Option.some.inj hx]
      rw [hdr, Sys.picksA] at hPi
      simp -implicitDefEqProofs (disch := first | omega | (simp only [St.set_n, St.up_n, List.length_cons, List.length_nil]; omega)) only [go_sem, Nat.reduceAdd, Nat.reduceMul, Nat.reduceSub, Int.reduceAdd, Int.reduceMul, Int.reduceSub, Int.reduceNeg, Int.reduceToNat, q5, q12, q13, q14, hlt, hsb, hbb, c0]
      refine callF_of (hM.full hN hl' ?_)
      cases hf : Sys.fullA a' with
      | true =>
        rw [hf] at hPi
        simp only [if_true] at hPi
        subst hPi
        simp -implicitDefEqProofs (disch := first | omega | (simp only [St.set_n, St.up_n, List.length_cons, List.length_nil]; omega)) only [go_sem, Nat.reduceAdd, Nat.reduceMul, Nat.reduceSub, Int.reduceAdd, Int.reduceMul, Int.reduceSub, Int.reduceNeg, Int.reduceToNat]
        exact ⟨_, To.refl _ _, vs', ⟨by simp -implicitDefEqProofs (disch := first | omega | (simp only [St.set_n, St.up_n, List.length_cons, List.length_nil]; omega)) only [go_sem, Nat.reduceAdd, Nat.reduceMul, Nat.reduceSub, Int.reduceAdd, Int.reduceMul, Int.reduceSub, Int.reduceNeg, Int.reduceToNat, q4], by simp -implicitDefEqProofs (disch := first | omega | (simp only [St.set_n, St.up_n, List.length_cons, List.length_nil]; omega)) only [go_sem, Nat.reduceAdd, Nat.reduceMul, Nat.reduceSub, Int.reduceAdd, Int.reduceMul, Int.reduceSub, Int.reduceNeg, Int.reduceToNat, q5], by simp -implicitDefEqProofs (disch := first | omega | (simp only [St.set_n, St.up_n, List.length_cons, List.length_nil]; omega)) only [go_sem, Nat.reduceAdd, Nat.reduceMul, Nat.reduceSub, Int.reduceAdd, Int.reduceMul, Int.reduceSub, Int.reduceNeg, Int.reduceToNat, hd]⟩, hM, hl', by omega⟩
      | false =>
        rw [hf] at hPi
        simp only [Bool.false_eq_true, if_false] at hPi
        have hl2 := Sys.turn_len (t := x) hf hl'
        have hc2 := (Sys.turn_mono a' x).2.2
        simp -implicitDefEqProofs (disch := first | omega | (simp only [St.set_n, St.up_n, List.length_cons, List.length_nil]; omega)) only [go_sem, Nat.reduceAdd, Nat.reduceMul, Nat.reduceSub, Int.reduceAdd, Int.reduceMul, Int.reduceSub, Int.reduceNeg, Int.reduceToNat, q5]
        refine callF_of (hM.turn hG2 hN hl' (by omega) x fun vs2 s4 hM2 => ?_)
        simp -implicitDefEqProofs (disch := first | omega | (simp only [St.set_n, St.up_n, List.length_cons, List.length_nil]; omega)) only [go_sem, Nat.reduceAdd, Nat.reduceMul, Nat.reduceSub, Int.reduceAdd, Int.reduceMul, Int.reduceSub, Int.reduceNeg, Int.reduceToNat, q14]
        exact ⟨picks.length - (i + 1), by omega, _, To.refl _ _, i + 1, _, vs2, rfl, by omega, ⟨by simp -implicitDefEqProofs (disch := first | omega | (simp only [St.set_n, St.up_n, List.length_cons, List.length_nil]; omega)) only [go_sem, Nat.reduceAdd, Nat.reduceMul, Nat.reduceSub, Int.reduceAdd, Int.reduceMul, Int.reduceSub, Int.reduceNeg, Int.reduceToNat, q4], by simp -implicitDefEqProofs (disch := first | omega | (simp only [St.set_n, St.up_n, List.length_cons, List.length_nil]; omega)) only [go_sem, Nat.reduceAdd, Nat.reduceMul, Nat.reduceSub, Int.reduceAdd, Int.reduceMul, Int.reduceSub, Int.reduceNeg, Int.reduceToNat, q5], by simp -implicitDefEqProofs (disch := first | omega | (simp only [St.set_n, St.up_n, List.length_cons, List.length_nil]; omega)) only [go_sem, Nat.reduceAdd, Nat.reduceMul, Nat.reduceSub, Int.reduceAdd, Int.reduceMul, Int.reduceSub, Int.reduceNeg, Int.reduceToNat, q12], by simp -implicitDefEqProofs (disch := first | omega | (simp only [St.set_n, St.up_n, List.length_cons, List.length_nil]; omega)) only [go_sem, Nat.reduceAdd, Nat.reduceMul, Nat.reduceSub, Int.reduceAdd, Int.reduceMul, Int.reduceSub, Int.reduceNeg, Int.reduceToNat, q13], by simp -implicitDefEqProofs (disch := first | omega | (simp only [St.set_n, St.up_n, List.length_cons, List.length_nil]; omega)) only [go_sem, Nat.reduceAdd, Nat.reduceMul, Nat.reduceSub, Int.reduceAdd, Int.reduceMul, Int.reduceSub, Int.reduceNeg, Int.reduceToNat]; rfl, by simp -implicitDefEqProofs (disch := first | omega | (simp only [St.set_n, St.up_n, List.length_cons, List.length_nil]; omega)) only [go_sem, Nat.reduceAdd, Nat.reduceMul, Nat.reduceSub, Int.reduceAdd, Int.reduceMul, Int.reduceSub, Int.reduceNeg, Int.reduceToNat, hd]⟩, hM2, hPi, hl2, by omega⟩
    · have hie : i = picks.length := by omega
      subst hie
      rw [List.drop_length, Sys.picksA] at hPi
      subst hPi
      simp -implicitDefEqProofs (disch := first | omega | (simp only [St.set_n, St.up_n, List.length_cons, List.length_nil]; omega)) only [go_sem, Nat.reduceAdd, Nat.reduceMul, Nat.reduceSub, Int.reduceAdd, Int.reduceMul, Int.reduceSub, Int.reduceNeg, Int.reduceToNat, q13, q14, hlt]
      exact ⟨_, To.refl _ _, vs', ⟨by simp -implicitDefEqProofs (disch := first | omega | (simp only [St.set_n, St.up_n, List.length_cons, List.length_nil]; omega)) only [go_sem, Nat.reduceAdd, Nat.reduceMul, Nat.reduceSub, Int.reduceAdd, Int.reduceMul, Int.reduceSub, Int.reduceNeg, Int.reduceToNat, q4], by simp -implicitDefEqProofs (disch := first | omega | (simp only [St.set_n, St.up_n, List.length_cons, List.length_nil]; omega)) only [go_sem, Nat.reduceAdd, Nat.reduceMul, Nat.reduceSub, Int.reduceAdd, Int.reduceMul, Int.reduceSub, Int.reduceNeg, Int.reduceToNat, q5], by simp -implicitDefEqProofs (disch := first | omega | (simp only [St.set_n, St.up_n, List.length_cons, List.length_nil]; omega)) only [go_sem, Nat.reduceAdd, Nat.reduceMul, Nat.reduceSub, Int.reduceAdd, Int.reduceMul, Int.reduceSub, Int.reduceNeg, Int.reduceToNat, hd]⟩, hM, hl', hca'⟩
  · clear hM0 hT
    rintro e s3 hws3 ⟨vs', ⟨q4, q5, hd⟩, hM, hl', hca'⟩
    refine SemS.seqw fun _ => ?_
    simp -implicitDefEqProofs (disch := first | omega | (simp only [St.set_n, St.up_n, List.length_cons, List.length_nil]; omega)) only [go_sem, Nat.reduceAdd, Nat.reduceMul, Nat.reduceSub, Int.reduceAdd, Int.reduceMul, Int.reduceSub, Int.reduceNeg, Int.reduceToNat]
    refine SemS.seq (fun e s => ∃ vs', PkJ σ.n q e ∧ Ms Y (fun c => (G c ∨ c = σ.n) ∨ c = q) σ1 q R.2 R.1 vs' s) ?_ ?_
    · refine SemS.block (SemS.loop (fun m e s => ∃ (k : Nat) (a' : Y.MA) (vs' : List Value), m = 65537 - a'.mv.length ∧ 65537 - a'.mv.length ≤ k ∧ PkJ σ.n q e ∧ Ms Y (fun c => (G c ∨ c = σ.n) ∨ c = q) σ1 q 0 a' vs' s ∧ Sys.loopA k a' = R ∧ a'.mv.length ≤ 65536 ∧ a'.ca ≤ picks.length + 1000 * a'.mv.length) (65537 - Pk.mv.length) ?_ ?_)
      · exact ⟨70000, Pk, vs', rfl, by omega, ⟨q4, q5, hd⟩, hM, hR, hl', by omega⟩
      clear hM hl' hca' q4 q5 hd hR
      rintro m e s4 hws4 ⟨k, a', vs', hm', hk, ⟨q4, q5, hd⟩, hM, hR, hl', hca'⟩
      obtain ⟨k', rfl⟩ : ∃ k', k = k' + 1 := ⟨k - 1, by omega⟩
      rw [Sys.loopA] at hR
      refine SemS.seq (fun e s => PkJ σ.n q e ∧ Ms Y (fun c => (G c ∨ c = σ.n) ∨ c = q) σ1 q 0 a' vs' s ∧ Sys.leftA a'.x = true) (SemS.wp fun _ => ?_) ?_
      · simp -implicitDefEqProofs (disch := first | omega | (simp only [St.set_n, St.up_n, List.length_cons, List.length_nil]; omega)) only [go_sem, Nat.reduceAdd, Nat.reduceMul, Nat.reduceSub, Int.reduceAdd, Int.reduceMul, Int.reduceSub, Int.reduceNeg, Int.reduceToNat, q5]
        refine callF_of (hM.left hN ?_)
        cases hlf : Sys.leftA a'.x with
        | true =>
          simp -implicitDefEqProofs (disch := first | omega | (simp only [St.set_n, St.up_n, List.length_cons, List.length_nil]; omega)) only [go_sem, Nat.reduceAdd, Nat.reduceMul, Nat.reduceSub, Int.reduceAdd, Int.reduceMul, Int.reduceSub, Int.reduceNeg, Int.reduceToNat]
          exact ⟨_, To.refl _ _, ⟨by simp -implicitDefEqProofs (disch := first | omega | (simp only [St.set_n, St.up_n, List.length_cons, List.length_nil]; omega)) only [go_sem, Nat.reduceAdd, Nat.reduceMul, Nat.reduceSub, Int.reduceAdd, Int.reduceMul, Int.reduceSub, Int.reduceNeg, Int.reduceToNat, q4], by simp -implicitDefEqProofs (disch := first | omega | (simp only [St.set_n, St.up_n, List.length_cons, List.length_nil]; omega)) only [go_sem, Nat.reduceAdd, Nat.reduceMul, Nat.reduceSub, Int.reduceAdd, Int.reduceMul, Int.reduceSub, Int.reduceNeg, Int.reduceToNat, q5], by simp -implicitDefEqProofs (disch := first | omega | (simp only [St.set_n, St.up_n, List.length_cons, List.length_nil]; omega)) only [go_sem, Nat.reduceAdd, Nat.reduceMul, Nat.reduceSub, Int.reduceAdd, Int.reduceMul, Int.reduceSub, Int.reduceNeg, Int.reduceToNat, hd]⟩, hM⟩
        | false =>
          rw [hlf] at hR
          simp only [Bool.false_eq_true, if_false] at hR
          subst hR
          simp -implicitDefEqProofs (disch := first | omega | (simp only [St.set_n, St.up_n, List.length_cons, List.length_nil]; omega)) only [go_sem, Nat.reduceAdd, Nat.reduceMul, Nat.reduceSub, Int.reduceAdd, Int.reduceMul, Int.reduceSub, Int.reduceNeg, Int.reduceToNat]
          exact ⟨_, To.refl _ _, vs', ⟨by simp -implicitDefEqProofs (disch := first | omega | (simp only [St.set_n, St.up_n, List.length_cons, List.length_nil]; omega)) only [go_sem, Nat.reduceAdd, Nat.reduceMul, Nat.reduceSub, Int.reduceAdd, Int.reduceMul, Int.reduceSub, Int.reduceNeg, Int.reduceToNat, q4], by simp -implicitDefEqProofs (disch := first | omega | (simp only [St.set_n, St.up_n, List.length_cons, List.length_nil]; omega)) only [go_sem, Nat.reduceAdd, Nat.reduceMul, Nat.reduceSub, Int.reduceAdd, Int.reduceMul, Int.reduceSub, Int.reduceNeg, Int.reduceToNat, q5], by simp -implicitDefEqProofs (disch := first | omega | (simp only [St.set_n, St.up_n, List.length_cons, List.length_nil]; omega)) only [go_sem, Nat.reduceAdd, Nat.reduceMul, Nat.reduceSub, Int.reduceAdd, Int.reduceMul, Int.reduceSub, Int.reduceNeg, Int.reduceToNat, hd]⟩, hM⟩
      clear hM q4 q5 hd
      rintro e s5 hws5 ⟨⟨q4, q5, hd⟩, hM, hlf⟩
      rw [hlf] at hR
      simp only [if_true] at hR
      refine SemS.block (SemS.block ?_)
      refine SemS.seq (fun e s => ∃ (bb : Bool) (a2 : Y.MA) (vs2 : List Value), PkJ σ.n q e ∧ VB bb e ∧ Ms Y (fun c => (G c ∨ c = σ.n) ∨ c = q) σ1 q 0 a2 vs2 s ∧
        ((bb = true ∧ R = (a2, 12)) ∨ (bb = false ∧ Sys.loopA k' a2 = R ∧ 65537 - a2.mv.length ≤ k' ∧ 65537 - a2.mv.length < m ∧ a2.mv.length ≤ 65536 ∧ a2.ca ≤ picks.length + 1000 * a2.mv.length))) (SemS.wp fun _ => ?_) ?_
      · simp -implicitDefEqProofs (disch := first | omega | (simp only [St.set_n, St.up_n, List.length_cons, List.length_nil]; omega)) only [go_sem, Nat.reduceAdd, Nat.reduceMul, Nat.reduceSub, Int.reduceAdd, Int.reduceMul, Int.reduceSub, Int.reduceNeg, Int.reduceToNat, q5]
        refine callF_of (hM.full hN hl' ?_)
        cases hf : Sys.fullA a' with
        | true =>
          rw [hf] at hR
          simp only [if_true] at hR
          simp -implicitDefEqProofs (disch := first | omega | (simp only [St.set_n, St.up_n, List.length_cons, List.length_nil]; omega)) only [go_sem, Nat.reduceAdd, Nat.reduceMul, Nat.reduceSub, Int.reduceAdd, Int.reduceMul, Int.reduceSub, Int.reduceNeg, Int.reduceToNat]
          exact ⟨_, To.refl _ _, true, a', vs', ⟨by simp -implicitDefEqProofs (disch := first | omega | (simp only [St.set_n, St.up_n, List.length_cons, List.length_nil]; omega)) only [go_sem, Nat.reduceAdd, Nat.reduceMul, Nat.reduceSub, Int.reduceAdd, Int.reduceMul, Int.reduceSub, Int.reduceNeg, Int.reduceToNat, q4], by simp -implicitDefEqProofs (disch := first | omega | (simp only [St.set_n, St.up_n, List.length_cons, List.length_nil]; omega)) only [go_sem, Nat.reduceAdd, Nat.reduceMul, Nat.reduceSub, Int.reduceAdd, Int.reduceMul, Int.reduceSub, Int.reduceNeg, Int.reduceToNat, q5], by simp -implicitDefEqProofs (disch := first | omega | (simp only [St.set_n, St.up_n, List.length_cons, List.length_nil]; omega)) only [go_sem, Nat.reduceAdd, Nat.reduceMul, Nat.reduceSub, Int.reduceAdd, Int.reduceMul, Int.reduceSub, Int.reduceNeg, Int.reduceToNat, hd]⟩, ⟨by simp -implicitDefEqProofs (disch := first | omega | (simp only [St.set_n, St.up_n, List.length_cons, List.length_nil]; omega)) only [go_sem, Nat.reduceAdd, Nat.reduceMul, Nat.reduceSub, Int.reduceAdd, Int.reduceMul, Int.reduceSub, Int.reduceNeg, Int.reduceToNat]⟩, hM, .inl ⟨rfl, hR.symm⟩⟩
        | false =>
          rw [hf] at hR
          simp only [Bool.false_eq_true, if_false] at hR
          obtain ⟨r1, r2, r3⟩ := Sys.round_mono (a := a') Y.n 0 false
          have r4 := Sys.round_len (a := a') Y.n 0 false hl'
          simp -implicitDefEqProofs (disch := first | omega | (simp only [St.set_n, St.up_n, List.length_cons, List.length_nil]; omega)) only [go_sem, Nat.reduceAdd, Nat.reduceMul, Nat.reduceSub, Int.reduceAdd, Int.reduceMul, Int.reduceSub, Int.reduceNeg, Int.reduceToNat, q5]
          refine callF_of (m_round hM hG2 hN hl' (by omega) fun vs2 s6 hM2 => ?_)
          cases hrd : (Sys.roundA a' 0 false Y.n).2 with
          | true =>
            rw [hrd] at hR
            simp only [if_true] at hR
            have r5 : a'.mv.length < (Sys.roundA a' 0 false Y.n).1.mv.length := by
              rcases r2 hrd with h | h
              · cases h
              · exact h
            simp -implicitDefEqProofs (disch := first | omega | (simp only [St.set_n, St.up_n, List.length_cons, List.length_nil]; omega)) only [go_sem, Nat.reduceAdd, Nat.reduceMul, Nat.reduceSub, Int.reduceAdd, Int.reduceMul, Int.reduceSub, Int.reduceNeg, Int.reduceToNat]
            exact ⟨_, To.refl _ _, false, _, vs2, ⟨by simp -implicitDefEqProofs (disch := first | omega | (simp only [St.set_n, St.up_n, List.length_cons, List.length_nil]; omega)) only [go_sem, Nat.reduceAdd, Nat.reduceMul, Nat.reduceSub, Int.reduceAdd, Int.reduceMul, Int.reduceSub, Int.reduceNeg, Int.reduceToNat, q4], by simp -implicitDefEqProofs (disch := first | omega | (simp only [St.set_n, St.up_n, List.length_cons, List.length_nil]; omega)) only [go_sem, Nat.reduceAdd, Nat.reduceMul, Nat.reduceSub, Int.reduceAdd, Int.reduceMul, Int.reduceSub, Int.reduceNeg, Int.reduceToNat, q5], by simp -implicitDefEqProofs (disch := first | omega | (simp only [St.set_n, St.up_n, List.length_cons, List.length_nil]; omega)) only [go_sem, Nat.reduceAdd, Nat.reduceMul, Nat.reduceSub, Int.reduceAdd, Int.reduceMul, Int.reduceSub, Int.reduceNeg, Int.reduceToNat, hd]⟩, ⟨by simp -implicitDefEqProofs (disch := first | omega | (simp only [St.set_n, St.up_n, List.length_cons, List.length_nil]; omega)) only [go_sem, Nat.reduceAdd, Nat.reduceMul, Nat.reduceSub, Int.reduceAdd, Int.reduceMul, Int.reduceSub, Int.reduceNeg, Int.reduceToNat]⟩, hM2, .inr ⟨rfl, hR, by omega, by omega, r4, by omega⟩⟩
          | false =>
            rw [hrd] at hR
            simp only [Bool.false_eq_true, if_false] at hR
            simp -implicitDefEqProofs (disch := first | omega | (simp only [St.set_n, St.up_n, List.length_cons, List.length_nil]; omega)) only [go_sem, Nat.reduceAdd, Nat.reduceMul, Nat.reduceSub, Int.reduceAdd, Int.reduceMul, Int.reduceSub, Int.reduceNeg, Int.reduceToNat]
            exact ⟨_, To.refl _ _, true, _, vs2, ⟨by simp -implicitDefEqProofs (disch := first | omega | (simp only [St.set_n, St.up_n, List.length_cons, List.length_nil]; omega)) only [go_sem, Nat.reduceAdd, Nat.reduceMul, Nat.reduceSub, Int.reduceAdd, Int.reduceMul, Int.reduceSub, Int.reduceNeg, Int.reduceToNat, q4], by simp -implicitDefEqProofs (disch := first | omega | (simp only [St.set_n, St.up_n, List.length_cons, List.length_nil]; omega)) only [go_sem, Nat.reduceAdd, Nat.reduceMul, Nat.reduceSub, Int.reduceAdd, Int.reduceMul, Int.reduceSub, Int.reduceNeg, Int.reduceToNat, q5], by simp -implicitDefEqProofs (disch := first | omega | (simp only [St.set_n, St.up_n, List.length_cons, List.length_nil]; omega)) only [go_sem, Nat.reduceAdd, Nat.reduceMul, Nat.reduceSub, Int.reduceAdd, Int.reduceMul, Int.reduceSub, Int.reduceNeg, Int.reduceToNat, hd]⟩, ⟨by simp -implicitDefEqProofs (disch := first | omega | (simp only [St.set_n, St.up_n, List.length_cons, List.length_nil]; omega)) only [go_sem, Nat.reduceAdd, Nat.reduceMul, Nat.reduceSub, Int.reduceAdd, Int.reduceMul, Int.reduceSub, Int.reduceNeg, Int.reduceToNat]⟩, hM2, .inl ⟨rfl, hR.symm⟩⟩
      clear hM q4 q5 hd
      rintro e s6 hws6 ⟨bb, a2, vs2, ⟨q4, q5, hd⟩, ⟨q26⟩, hM, hcase⟩
      refine SemS.cond (b := bb) (by rw [ev_tmp]; exact q26) (fun hb => ?_) (fun hb => ?_)
      · obtain ⟨_, hRR⟩ := hcase.resolve_right fun h => by rw [hb] at h; cases h.1
        subst hRR
        refine SemS.openO hM.m fun vv τ hwτ hnτ hO hfr => SemS.wp fun _ => ?_
        obtain ⟨v1, v2, rfl, o1, o2⟩ := hO.own.two
        have hr := hO.root
        simp only [mRoot_two] at hr
        simp -implicitDefEqProofs (disch := first | omega | (simp only [St.set_n, St.up_n, List.length_cons, List.length_nil]; omega)) only [go_sem, Nat.reduceAdd, Nat.reduceMul, Nat.reduceSub, Int.reduceAdd, Int.reduceMul, Int.reduceSub, Int.reduceNeg, Int.reduceToNat, q5, hr]
        have hI2 := Y.stable (inv_open hM.I hG2 hO.apart hnτ (fun v hv b hb => by obtain ⟨o, ho'⟩ := hO.own.at_ v hv b hb; exact (hwτ.2 _ _ ho').2) hfr) (s' := τ.set q (.raw (.cells #[v1, .int .i64 a2.ca, .int .i64 12, v2] 114 (0, 0)))) (fun c y hc hx => by
          have : c ≠ q := fun e => hc (.inl (e ▸ hG2))
          simp -implicitDefEqProofs (disch := first | omega | (simp only [St.set_n, St.up_n, List.length_cons, List.length_nil]; omega)) only [go_sem, Nat.reduceAdd, Nat.reduceMul, Nat.reduceSub, Int.reduceAdd, Int.reduceMul, Int.reduceSub, Int.reduceNeg, Int.reduceToNat, hx]) (Nat.le_refl _)
        have hO2 : OpenO (τ.set q (.raw (.cells #[v1, .int .i64 a2.ca, .int .i64 12, v2] 114 (0, 0)))) q 114 (mRoot a2.ca 12) (spM ⟨a2.mv, a2.ca, 12, vs2⟩) [v1, v2] :=
          ⟨by simp only [St.set_m_same]; rfl, hO.own.keepR fun v hv b o hb ho => by rw [St.set_m_ne _ _ fun e => hO.apart.off.mem v hv (by rw [← e]; exact hb)]; exact ho, hO.apart⟩
        obtain ⟨σ'', hT2, hq2, hI3, hn4, hk4⟩ := inv_close (M := ⟨a2.mv, a2.ca, 12, vs2⟩) hI2 hG2 hO2
        refine ⟨σ'', hT2, vs2, ⟨by simp -implicitDefEqProofs (disch := first | omega | (simp only [St.set_n, St.up_n, List.length_cons, List.length_nil]; omega)) only [go_sem, Nat.reduceAdd, Nat.reduceMul, Nat.reduceSub, Int.reduceAdd, Int.reduceMul, Int.reduceSub, Int.reduceNeg, Int.reduceToNat, q4], by simp -implicitDefEqProofs (disch := first | omega | (simp only [St.set_n, St.up_n, List.length_cons, List.length_nil]; omega)) only [go_sem, Nat.reduceAdd, Nat.reduceMul, Nat.reduceSub, Int.reduceAdd, Int.reduceMul, Int.reduceSub, Int.reduceNeg, Int.reduceToNat, q5], by simp -implicitDefEqProofs (disch := first | omega | (simp only [St.set_n, St.up_n, List.length_cons, List.length_nil]; omega)) only [go_sem, Nat.reduceAdd, Nat.reduceMul, Nat.reduceSub, Int.reduceAdd, Int.reduceMul, Int.reduceSub, Int.reduceNeg, Int.reduceToNat, hd]⟩, ⟨hq2, hI3, by have := hM.n; simp only [St.set_n] at hn4; omega, fun c y hc hcq hx => ?_⟩⟩
        obtain ⟨h5, h6⟩ := hfr c y hcq (hM.old c y hc hcq hx)
        exact hk4 c y hcq (by simp -implicitDefEqProofs (disch := first | omega | (simp only [St.set_n, St.up_n, List.length_cons, List.length_nil]; omega)) only [go_sem, Nat.reduceAdd, Nat.reduceMul, Nat.reduceSub, Int.reduceAdd, Int.reduceMul, Int.reduceSub, Int.reduceNeg, Int.reduceToNat, h5]) h6
      · obtain ⟨_, h1, h2, h3, h4, h5⟩ := hcase.resolve_left fun h => by rw [hb] at h; cases h.1
        refine SemS.wp fun _ => ?_
        simp -implicitDefEqProofs (disch := first | omega | (simp only [St.set_n, St.up_n, List.length_cons, List.length_nil]; omega)) only [go_sem, Nat.reduceAdd, Nat.reduceMul, Nat.reduceSub, Int.reduceAdd, Int.reduceMul, Int.reduceSub, Int.reduceNeg, Int.reduceToNat]
        exact ⟨_, h3, _, To.refl _ _, k', a2, vs2, rfl, h2, ⟨q4, q5, hd⟩, hM, h1, h4, h5⟩
    · rintro e s4 hws4 ⟨vs', ⟨q4, q5, hd⟩, hM⟩
      refine SemS.openO hM.m fun vv τ hwτ hnτ hO hfr => SemS.wp fun _ => ?_
      obtain ⟨v1, v2, rfl, o1, o2⟩ := hO.own.two
      have hr := hO.root
      simp only [mRoot_two] at hr
      have hx : τ.m σ.n = some (.raw (.cells #[.slice none 0 0, .int .i64 0, .int .i64 0] 54 (0, 0))) := (hfr _ _ (Ne.symm hqn) (hM.old _ _ (.inl (.inr rfl)) (Ne.symm hqn) hx4)).1
      have hb1 : blk v1 ≠ some σ.n := (hfr _ _ (Ne.symm hqn) (hM.old _ _ (.inl (.inr rfl)) (Ne.symm hqn) hx4)).2.1
      obtain ⟨Av, cv, rfl, _⟩ := o1.is
      simp -implicitDefEqProofs (disch := first | omega | (simp only [St.set_n, St.up_n, List.length_cons, List.length_nil]; omega)) only [go_sem, Nat.reduceAdd, Nat.reduceMul, Nat.reduceSub, Int.reduceAdd, Int.reduceMul, Int.reduceSub, Int.reduceNeg, Int.reduceToNat, q4, q5, hr, hx, hd]
      have hI2 := Y.stable (inv_open hM.I hG2 hO.apart hnτ (fun v hv b hb => by obtain ⟨o, ho'⟩ := hO.own.at_ v hv b hb; exact (hwτ.2 _ _ ho').2) hfr) (s' := τ.set σ.n (.raw (.cells #[.slice Av R.1.mv.length cv, .int .i64 R.1.ca, .int .i64 R.2] 54 (0, 0)))) (fun c y hc hx => by
        have : c ≠ σ.n := fun e => hc (.inl (.inl (.inr e)))
        simp -implicitDefEqProofs (disch := first | omega | (simp only [St.set_n, St.up_n, List.length_cons, List.length_nil]; omega)) only [go_sem, Nat.reduceAdd, Nat.reduceMul, Nat.reduceSub, Int.reduceAdd, Int.reduceMul, Int.reduceSub, Int.reduceNeg, Int.reduceToNat, hx]) (Nat.le_refl _)
      refine ⟨_, To.refl _ _, hK _ vs' _ (o1.keepR fun b o hb ho => ?_) (Y.weak hI2 fun c hc => .inl (.inl (.inl hc))) (by have := hM.n; simp only [St.set_n]; omega) fun c y hc hx => ?_⟩
      · have : b ≠ σ.n := fun e => hb1 (e ▸ hb)
        simp -implicitDefEqProofs (disch := first | omega | (simp only [St.set_n, St.up_n, List.length_cons, List.length_nil]; omega)) only [go_sem, Nat.reduceAdd, Nat.reduceMul, Nat.reduceSub, Int.reduceAdd, Int.reduceMul, Int.reduceSub, Int.reduceNeg, Int.reduceToNat, ho]
      · have hcn := (hwf.2 _ _ hx).2
        have hcq : c ≠ q := fun e => by
          have := hk1 c hcn
          rw [e, hq0, ← e, hx] at this
          cases this
        have h5 := (hfr c y hcq (hM.old c y (.inl (.inl hc)) hcq ((hk1 c hcn).trans hx))).1
        simp -implicitDefEqProofs (disch := first | omega | (simp only [St.set_n, St.up_n, List.length_cons, List.length_nil]; omega)) only [go_sem, Nat.reduceAdd, Nat.reduceMul, Nat.reduceSub, Int.reduceAdd, Int.reduceMul, Int.reduceSub, Int.reduceNeg, Int.reduceToNat, h5]
end
end Go.Proofs.YtdbgeahmhfocaaaGreat
