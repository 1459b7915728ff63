/- A region that draws its order, gone through by a plan: a quiet operation is taken first, though others that write might run ahead of it, if it yields the same behind each of them. -/
import Derived.Test.YtdbgeahmhfocaaaGreatEngV
namespace Go.Proofs.YtdbgeahmhfocaaaGreat
set_option linter.unusedSimpArgs false
set_option linter.unusedVariables false
open Go Go.RowKit

section
variable {P : Program} {B : World} {ops : Array Oper} {Q : Exit → Act → World → Prop} {r : Option Nat}

/-- The operation yields 'v' here. -/
def Yd (P : Program) (ops : Array Oper) (o : Oper) (v : Value) (a : Act) (w : World) : Prop :=
  (Region.wanted o (yielded ops a.tmps) = true ∧ (execOp a.eval o).run P w = .ok (.value v) w) ∨ (Region.wanted o (yielded ops a.tmps) = false ∧ v = undef)

theorem Yd.op {i : Nat} {o : Oper} {v : Value} {a : Act} {w : World} {K : Act → World → Prop} (hi : ops[i]? = some o) (hd : ∀ c, o.op ≠ .defer c) (hy : Yd P ops o v a w) (h : K (a.put o.dst v) w) :
    wpOpIn (FR r) 0 P ops Q i K a w := by
  unfold wpOpIn
  simp only [hi]
  rcases hy with ⟨hw, hv⟩ | ⟨hw, rfl⟩
  · simp only [hw, if_true]
    refine ⟨fun _ _ => trivial, ?_⟩
    rw [Oper.semAt_eq _ _ _ hd, hv]
    exact h
  · simp only [hw, Bool.false_eq_true, if_false]
    exact ⟨fun _ _ => trivial, h⟩

theorem upon_late {o : Oper} {d : Option Tmp} {v : Value} {a : Act} {next : Act → World → Prop} (hQ : ∀ c a w, ¬ Q (.panic c) a w) (hd : ∀ t, d = some t → o.dst ≠ some t) {x : Result Next}
    (h : o.uponIn (FR r) 0 P (a.put d v) next Q x) : o.uponIn (FR r) 0 P a (fun a' w' => next (a'.put d v) w') Q x := by
  have hc : ∀ u, (a.put o.dst u).put d v = (a.put d v).put o.dst u := fun u => (Act.put_comm a v u hd).symm
  cases x with
  | halt x w' =>
    cases x <;> first | exact h | skip
    exact absurd h (hQ _ _ _)
  | ok x w' =>
    cases x with
    | value u => show next _ _; rw [hc]; exact h
    | skip => show next _ _; rw [hc]; exact h
    | defer y =>
      show next _ _
      have h' : next (({ a.put d v with defers := y :: (a.put d v).defers } : Act).put o.dst undef) w' := h
      rw [Act.put_defers, Act.put_comm _ v undef hd] at h'
      exact h'
    | enter f args =>
      refine ⟨h.1, CallsIn.mono h.2 fun e w'' he => ?_⟩
      cases e with
      | returned u => show next _ _; rw [hc]; exact he
      | panicked c => exact absurd he (hQ _ _ _)
      | outgrown => exact he
    | row row args => exact ⟨h.1, RowsIn.mono h.2 fun u w'' he => by show next _ _; rw [hc]; exact he⟩
    | round l f tmps x y =>
      refine ⟨h.1, RoundIn.mono h.2 fun e w'' he => ?_⟩
      cases e with
      | returned u => show next _ _; rw [hc]; exact he
      | panicked c => exact absurd he (hQ _ _ _)
      | outgrown => exact he
    | _ => exact h

theorem op_late {j : Nat} {o : Oper} {d : Option Tmp} {v : Value} {a : Act} {w : World} {K : Act → World → Prop} (hj : ops[j]? = some o) (hQ : ∀ c a w, ¬ Q (.panic c) a w) (hs : ∀ cs b, o.op ≠ .select cs b) (hdf : ∀ c, o.op ≠ .defer c)
    (hl : ∀ t, d = some t → t ∉ o.looksAt ops) (hd : ∀ t, d = some t → o.dst ≠ some t) (h : wpOpIn (FR r) 0 P ops Q j K (a.put d v) w) : wpOpIn (FR r) 0 P ops Q j (fun a' w' => K (a'.put d v) w') a w := by
  unfold wpOpIn at h ⊢
  simp only [hj] at h ⊢
  rw [wanted_put o a d v hl] at h
  split
  · rename_i hw
    simp only [hw, if_true] at h
    refine ⟨fun _ _ => trivial, ?_⟩
    have h2 := h.2
    rw [Oper.semAt_eq _ _ _ hdf, execOp_put o hs a d v hl] at h2
    rw [Oper.semAt_eq _ _ _ hdf]
    exact upon_late hQ hd h2
  · rename_i hw
    simp only [hw] at h
    refine ⟨fun _ _ => trivial, ?_⟩
    rw [← Act.put_comm a v undef hd]
    exact h.2

/-- An operation writes its own slot alone. -/
theorem op_frame {j : Nat} {o : Oper} {a : Act} {w : World} {K : Act → World → Prop} (hj : ops[j]? = some o) (hQ : ∀ c a w, ¬ Q (.panic c) a w)
    (h : wpOpIn (FR r) 0 P ops Q j K a w) : wpOpIn (FR r) 0 P ops Q j (fun a' w' => (∃ u ds, a' = { a.put o.dst u with defers := ds }) ∧ K a' w') a w := by
  unfold wpOpIn at h ⊢
  simp only [hj] at h ⊢
  have triv : ∀ u, ∃ u' ds, a.put o.dst u = { a.put o.dst u' with defers := ds } := fun u => ⟨u, (a.put o.dst u).defers, rfl⟩
  split
  · rename_i hw
    simp only [hw, if_true] at h
    refine ⟨fun _ _ => trivial, ?_⟩
    have h2 := h.2
    revert h2
    generalize (o.semAt (FR r).round a.eval).run P w = x
    intro h
    cases x with
    | halt x w' =>
      cases x <;> first | exact h | skip
    | ok x w' =>
      cases x with
      | value u => exact ⟨triv _, h⟩
      | skip => exact ⟨triv _, h⟩
      | defer y => exact ⟨⟨undef, _, by rw [Act.put_defers]⟩, h⟩
      | enter f args =>
        refine ⟨h.1, CallsIn.mono h.2 fun e w'' he => ?_⟩
        cases e with
        | returned u => exact ⟨triv _, he⟩
        | panicked c => exact absurd he (hQ _ _ _)
        | outgrown => exact he
      | row row args => exact ⟨h.1, RowsIn.mono h.2 fun u w'' he => ⟨triv _, he⟩⟩
      | round l f tmps x y =>
        refine ⟨h.1, RoundIn.mono h.2 fun e w'' he => ?_⟩
        cases e with
        | returned u => exact ⟨triv _, he⟩
        | panicked c => exact absurd he (hQ _ _ _)
        | outgrown => exact he
      | _ => exact h
  · rename_i hw
    simp only [hw] at h
    exact ⟨fun _ _ => trivial, triv _, h.2⟩

/-- Does the j-th operation wait for the i-th, through any chain? By masks. -/
def wt (W : List Nat) (j i : Nat) : Bool := (W.getD j 0).testBit i
def waitsOk (ops : Array Oper) (W : List Nat) : Bool := (List.range ops.size).all fun j => (List.range ops.size).all fun i => !wt W j i ||
  (match ops[j]? with | some o => o.after.any fun e => Region.binds .any e && decide (e.on < j) && (e.on == i || wt W e.on i) | none => false)
def Closed (ops : Array Oper) (L : Array Bool) : Prop := ∀ (j : Nat) (o : Oper), ops[j]? = some o → L.getD j false = true → ∀ x ∈ o.after, Region.binds .any x = true → L.getD x.on false = true
theorem wt_closed {W : List Nat} (hW : waitsOk ops W = true) {L : Array Bool} (hc : Closed ops L) {i : Nat} (hi : i < ops.size) : ∀ (j : Nat) (o : Oper), ops[j]? = some o → (∀ x ∈ o.after, Region.binds .any x = true → L.getD x.on false = true) → wt W j i = true → L.getD i false = true := by
  intro j
  induction j using Nat.strongRecOn with
  | _ j ih =>
    intro o ho hd h
    have hj := (Array.getElem?_eq_some_iff.1 ho).1
    have h1 := List.all_eq_true.1 (List.all_eq_true.1 hW j (List.mem_range.2 hj)) i (List.mem_range.2 hi)
    rw [h, ho] at h1
    simp only [Bool.not_true, Bool.false_or] at h1
    obtain ⟨x, hx, hb⟩ := Array.any_eq_true'.1 h1
    simp only [Bool.and_eq_true, Bool.or_eq_true, beq_iff_eq, decide_eq_true_eq] at hb
    obtain ⟨⟨hb, hlt⟩, h2⟩ := hb
    have hl := hd x hx hb
    rcases h2 with h2 | h2
    · rw [← h2]; exact hl
    · have hxs : x.on < ops.size := by omega
      exact ih x.on hlt ops[x.on] (by simp [hxs]) (hc x.on _ (by simp [hxs]) hl) h2

/-- What is still to hold of the pending ones. -/
def Pend (P : Program) (ops : Array Oper) (W : List Nat) (ps : List (Nat × Oper × Value)) (j : Nat) (a : Act) (w : World) : Prop :=
  ∀ x ∈ ps, wt W j x.1 = false → Yd P ops x.2.1 x.2.2 a w

def wpT (r : Option Nat) (P : Program) (ops : Array Oper) (W : List Nat) (Q : Exit → Act → World → Prop) (tk : List Nat) (ps : List (Nat × Oper × Value)) : Nat → Array Bool → Act → World → Prop
  | 0, L, a, w => Region.ready .any ops L = [] ∧ Q .normal a w
  | f + 1, L, a, w => (Region.ready .any ops L = [] → Q .normal a w) ∧ ∀ i ∈ Region.ready .any ops L,
      (i ∈ tk → ∃ o v, ops[i]? = some o ∧ Yd P ops o v a w ∧ wpT r P ops W Q tk ps f (L.setIfInBounds i true) (a.put o.dst v) w) ∧
      (i ∉ tk → wpOpIn (FR r) 0 P ops Q i (fun a' w' => Pend P ops W ps i a' w' ∧ wpT r P ops W Q tk ps f (L.setIfInBounds i true) a' w') a w)

variable {W : List Nat}

theorem wpT_weak {tk : List Nat} {x : Nat × Oper × Value} {ps : List (Nat × Oper × Value)} : ∀ (f : Nat) (L : Array Bool) (a : Act) (w : World), wpT r P ops W Q tk (x :: ps) f L a w → wpT r P ops W Q tk ps f L a w
  | 0, L, a, w, h => h
  | f + 1, L, a, w, h => ⟨h.1, fun i hi => ⟨fun ht => let ⟨o, v, h1, h2, h3⟩ := (h.2 i hi).1 ht; ⟨o, v, h1, h2, wpT_weak f _ _ _ h3⟩,
      fun ht => wpOpIn_mono (fun a' w' h' => ⟨fun y hy hw => h'.1 y (List.mem_cons_of_mem _ hy) hw, wpT_weak f _ a' w' h'.2⟩) ((h.2 i hi).2 ht)⟩⟩

theorem Yd.put {o : Oper} {v : Value} {a : Act} {w : World} (hs : ∀ cs b, o.op ≠ .select cs b) (d : Option Tmp) (u : Value) (h : ∀ t, d = some t → t ∉ o.looksAt ops) : Yd P ops o v (a.put d u) w ↔ Yd P ops o v a w := by
  unfold Yd
  rw [wanted_put o a d u h, execOp_put o hs a d u h]

theorem Closed.set {L : Array Bool} (hc : Closed ops L) {i : Nat} (hi : i ∈ Region.ready .any ops L) : Closed ops (L.setIfInBounds i true) := by
  obtain ⟨hu, oi, hoi, hall⟩ := mem_ready.1 hi
  intro j o hj hl x hx hb
  by_cases hij : i = j
  · subst hij
    have : o = oi := Option.some.inj (hj.symm.trans hoi)
    subst this
    exact getD_set_true (hall x hx hb)
  · rw [getD_set_ne false hij] at hl
    exact getD_set_true (hc j o hj hl x hx hb)

/-- Nothing that is still to come, and does not wait for the i-th, looks at its slot, or writes it, or writes what it looks at. -/
def FreeT (ops : Array Oper) (W : List Nat) (L : Array Bool) (i : Nat) (oi : Oper) : Prop :=
  ∀ (j : Nat) (o : Oper), ops[j]? = some o → j ≠ i → L.getD j true = false → wt W j i = false →
    (∀ t, oi.dst = some t → t ∉ o.looksAt ops) ∧ (∀ t, oi.dst = some t → o.dst ≠ some t) ∧ (∀ t, o.dst = some t → t ∉ oi.looksAt ops)
theorem FreeT.set {L : Array Bool} {i j : Nat} {oi : Oper} (h : FreeT ops W L i oi) (hjun : L.getD j true = false) : FreeT ops W (L.setIfInBounds j true) i oi := fun k o hk hki hun hno => by
  refine h k o hk hki ?_ hno
  by_cases hjk : j = k
  · subst hjk; exact hjun
  · rw [getD_set_ne true hjk] at hun; exact hun

theorem wpT_first (hW : waitsOk ops W = true) {tk : List Nat} {ps : List (Nat × Oper × Value)} {i : Nat} {oi : Oper} {v : Value} (hi : ops[i]? = some oi) (htk : i ∈ tk) (hQ : ∀ c a w, ¬ Q (.panic c) a w)
    (hsel : ∀ (j : Nat) (o : Oper), ops[j]? = some o → (∀ cs b, o.op ≠ .select cs b) ∧ ∀ c, o.op ≠ .defer c)
    (hself : ∀ t, oi.dst = some t → t ∉ oi.looksAt ops) (hps : ∀ x ∈ ps, (∀ cs b, x.2.1.op ≠ .select cs b) ∧ ∀ t, oi.dst = some t → t ∉ x.2.1.looksAt ops) :
    ∀ (f : Nat) (L : Array Bool) (a : Act) (w : World), Closed ops L → FreeT ops W L i oi → i ∈ Region.ready .any ops L → Yd P ops oi v a w → wpT r P ops W Q tk ((i, oi, v) :: ps) f (L.setIfInBounds i true) (a.put oi.dst v) w → wpT r P ops W Q tk ps (f + 1) L a w := by
  have hisz := (Array.getElem?_eq_some_iff.1 hi).1
  intro f
  induction f with
  | zero =>
    intro L a w hc hfree hr hy H
    refine ⟨fun h => (by rw [h] at hr; cases hr), fun j hj => ?_⟩
    have hji : j = i := by
      by_cases e : j = i
      · exact e
      · have := ready_mono hj e
        rw [H.1] at this; cases this
    subst hji
    exact ⟨fun _ => ⟨oi, v, hi, hy, H⟩, fun h => absurd htk h⟩
  | succ f ih =>
    intro L a w hc hfree hr hy H
    refine ⟨fun h => (by rw [h] at hr; cases hr), fun j hj => ?_⟩
    by_cases hji : j = i
    · subst hji
      exact ⟨fun _ => ⟨oi, v, hi, hy, wpT_weak _ _ _ _ H⟩, fun h => absurd htk h⟩
    · have hjr := ready_mono hj hji
      obtain ⟨hjun, oj, hoj, hall⟩ := mem_ready.1 hj
      have hiun := getD_both (mem_ready.1 hr).1
      have hw : wt W j i = false := by
        cases h : wt W j i with
        | false => rfl
        | true => have := wt_closed hW hc hisz j oj hoj hall h; rw [hiun] at this; cases this
      obtain ⟨p1, p2, p3⟩ := hfree j oj hoj hji hjun hw
      have h1 := H.2 j hjr
      have next : ∀ (a' : Act) (w' : World), Yd P ops oi v a' w' → wpT r P ops W Q tk ((i, oi, v) :: ps) f ((L.setIfInBounds i true).setIfInBounds j true) (a'.put oi.dst v) w' → wpT r P ops W Q tk ps (f + 1) (L.setIfInBounds j true) a' w' := fun a' w' hy' h' =>
        ih (L.setIfInBounds j true) a' w' (hc.set hj) (hfree.set hjun) (ready_mono hr (Ne.symm hji)) hy' (by rw [Array.setIfInBounds_comm _ _ hji]; exact h')
      refine ⟨fun ht => ?_, fun ht => ?_⟩
      · obtain ⟨o, u, ho, hyj, h2⟩ := h1.1 ht
        have : o = oj := Option.some.inj (ho.symm.trans hoj)
        subst this
        refine ⟨o, u, hoj, (Yd.put (hsel j o hoj).1 oi.dst v p1).1 hyj, next _ _ ((Yd.put (hsel i oi hi).1 o.dst u p3).2 hy) ?_⟩
        rw [← Act.put_comm a v u p2]; exact h2
      · have h2 := op_late hoj hQ (hsel j oj hoj).1 (hsel j oj hoj).2 p1 p2 (h1.2 ht)
        refine wpOpIn_mono (fun a' w' h3 => ⟨fun x hx hw' => (Yd.put (hps x hx).1 oi.dst v (hps x hx).2).1 (h3.1 x (List.mem_cons_of_mem _ hx) hw'), next a' w' ?_ h3.2⟩) h2
        exact (Yd.put (hsel i oi hi).1 oi.dst v hself).1 (h3.1 (i, oi, v) List.mem_cons_self hw)

/-- An operation that looks at no memory. -/
theorem wpT_pure (hW : waitsOk ops W = true) {tk : List Nat} {ps : List (Nat × Oper × Value)} {i : Nat} {oi : Oper} {v : Value} (hi : ops[i]? = some oi) (htk : i ∈ tk) (hQ : ∀ c a w, ¬ Q (.panic c) a w)
    (hsel : ∀ (j : Nat) (o : Oper), ops[j]? = some o → (∀ cs b, o.op ≠ .select cs b) ∧ ∀ c, o.op ≠ .defer c)
    (hps : ∀ x ∈ ps, (∀ cs b, x.2.1.op ≠ .select cs b) ∧ ∀ t, oi.dst = some t → t ∉ x.2.1.looksAt ops) :
    ∀ (f : Nat) (L : Array Bool) (a : Act) (w : World), Closed ops L → FreeT ops W L i oi → i ∈ Region.ready .any ops L → (∀ w, Yd P ops oi v a w) → wpT r P ops W Q tk ps f (L.setIfInBounds i true) (a.put oi.dst v) w → wpT r P ops W Q tk ps (f + 1) L a w := by
  have hisz := (Array.getElem?_eq_some_iff.1 hi).1
  intro f
  induction f with
  | zero =>
    intro L a w hc hfree hr hy H
    refine ⟨fun h => (by rw [h] at hr; cases hr), fun j hj => ?_⟩
    have hji : j = i := by
      by_cases e : j = i
      · exact e
      · have := ready_mono hj e
        rw [H.1] at this; cases this
    subst hji
    exact ⟨fun _ => ⟨oi, v, hi, hy w, H⟩, fun h => absurd htk h⟩
  | succ f ih =>
    intro L a w hc hfree hr hy H
    refine ⟨fun h => (by rw [h] at hr; cases hr), fun j hj => ?_⟩
    by_cases hji : j = i
    · subst hji
      exact ⟨fun _ => ⟨oi, v, hi, hy w, H⟩, fun h => absurd htk h⟩
    · have hjr := ready_mono hj hji
      obtain ⟨hjun, oj, hoj, hall⟩ := mem_ready.1 hj
      have hiun := getD_both (mem_ready.1 hr).1
      have hw : wt W j i = false := by
        cases h : wt W j i with
        | false => rfl
        | true => have := wt_closed hW hc hisz j oj hoj hall h; rw [hiun] at this; cases this
      obtain ⟨p1, p2, p3⟩ := hfree j oj hoj hji hjun hw
      have h1 := H.2 j hjr
      have next : ∀ (a' : Act) (w' : World), (∀ w', Yd P ops oi v a' w') → wpT r P ops W Q tk ps f ((L.setIfInBounds i true).setIfInBounds j true) (a'.put oi.dst v) w' → wpT r P ops W Q tk ps (f + 1) (L.setIfInBounds j true) a' w' := fun a' w' hy' h' =>
        ih (L.setIfInBounds j true) a' w' (hc.set hj) (hfree.set hjun) (ready_mono hr (Ne.symm hji)) hy' (by rw [Array.setIfInBounds_comm _ _ hji]; exact h')
      refine ⟨fun ht => ?_, fun ht => ?_⟩
      · obtain ⟨o, u, ho, hyj, h2⟩ := h1.1 ht
        have : o = oj := Option.some.inj (ho.symm.trans hoj)
        subst this
        refine ⟨o, u, hoj, (Yd.put (hsel j o hoj).1 oi.dst v p1).1 hyj, next _ _ (fun w' => (Yd.put (hsel i oi hi).1 o.dst u p3).2 (hy w')) ?_⟩
        rw [← Act.put_comm a v u p2]; exact h2
      · have h2 := op_frame hoj hQ (op_late hoj hQ (hsel j oj hoj).1 (hsel j oj hoj).2 p1 p2 (h1.2 ht))
        refine wpOpIn_mono (fun a' w' h3 => ?_) h2
        obtain ⟨⟨u, ds, rfl⟩, h3, h4⟩ := h3
        refine ⟨fun x hx hw' => (Yd.put (hps x hx).1 oi.dst v (hps x hx).2).1 (h3 x hx hw'), next _ w' (fun w' => ?_) h4⟩
        exact (Yd.put (hsel i oi hi).1 oj.dst u p3).2 (hy w')

theorem wpT_any (hsel : ∀ (j : Nat) (o : Oper), ops[j]? = some o → (∀ cs b, o.op ≠ .select cs b) ∧ ∀ c, o.op ≠ .defer c) {tk : List Nat} {ps : List (Nat × Oper × Value)} :
    ∀ (f : Nat) (L : Array Bool) (a : Act) (w : World), wpT r P ops W Q tk ps f L a w → wpAnyIn (FR r) 0 P .any ops Q f L a w
  | 0, L, a, w, h => h
  | f + 1, L, a, w, h => ⟨h.1, fun i hi => by
      by_cases ht : i ∈ tk
      · obtain ⟨o, v, ho, hy, h2⟩ := (h.2 i hi).1 ht
        exact hy.op ho (hsel i o ho).2 (wpT_any hsel f _ _ _ h2)
      · exact wpOpIn_mono (fun a' w' h' => wpT_any hsel f _ _ _ h'.2) ((h.2 i hi).2 ht)⟩

/-! ### Plans -/
/-- How a region's orders are gone through: 'eag i p': the i-th operation, which looks at no memory, goes first; 'eagq i p': a quiet one goes first, and is pending from then on; 'alt j cs p q': the j-th goes now, then the pending ones 'cs' are looked at again, then 'p'; or another one, by 'q'. -/
inductive Plan where
  | fin
  | stop
  | eag (i : Nat) (p : Plan)
  | eagq (i : Nat) (p : Plan)
  | alt (i : Nat) (cs : List Nat) (p q : Plan)

def Plan.len : Plan → Nat
  | .fin => 0
  | .stop => 0
  | .eag _ p => p.len + 1
  | .eagq _ p => p.len + 1
  | .alt _ _ p q => max (p.len + 1) q.len

def freeB (ops : Array Oper) (W : List Nat) (L : Array Bool) (i : Nat) (oi : Oper) : Bool := (List.range ops.size).all fun j => decide (j = i) || L.getD j true || wt W j i ||
  (match ops[j]? with
   | some o => (match oi.dst with | some t => !(o.looksAt ops).contains t && o.dst != some t | none => true) && (match o.dst with | some t => !(oi.looksAt ops).contains t | none => true)
   | none => true)
/-- None of the pending ones looks at this slot. -/
def unseen (ops : Array Oper) (ps : List Nat) (d : Option Tmp) : Bool := ps.all fun c => match ops[c]?, d with | some o, some t => !(o.looksAt ops).contains t | _, _ => true
def takeB (ops : Array Oper) (W : List Nat) (tk : List Nat) (L : Array Bool) (ps : List Nat) (i : Nat) (k : Oper → Bool) : Bool :=
  match ops[i]? with
  | some o => k o && freeB ops W L i o && unseen ops ps o.dst && tk.contains i && (Region.ready .any ops L).contains i
  | none => false
def planB (ops : Array Oper) (W : List Nat) (tk : List Nat) : Plan → Array Bool → List Nat → Option (List Nat) → Bool
  | .fin, L, _, none => (Region.ready .any ops L).isEmpty
  | .eag i p, L, ps, none => takeB ops W tk L ps i (fun o => pureB o.op) && planB ops W tk p (L.setIfInBounds i true) ps none
  | .eagq i p, L, ps, none => takeB ops W tk L ps i (fun o => isQ o.op && (match o.dst with | some t => !(o.looksAt ops).contains t | none => false)) && planB ops W tk p (L.setIfInBounds i true) (i :: ps) none
  | .alt j cs p q, L, ps, none => (Region.ready .any ops L).contains j && (Region.ready .any ops L).all (fun i => !tk.contains i) && ps.all (fun c => wt W j c || cs.contains c) && planB ops W tk p (L.setIfInBounds j true) ps none && planB ops W tk q L ps (some [j])
  | .alt j cs p q, L, ps, some A => ps.all (fun c => wt W j c || cs.contains c) && planB ops W tk p (L.setIfInBounds j true) ps none && planB ops W tk q L ps (some (j :: A))
  | .stop, L, _, some A => (Region.ready .any ops L).all (A.contains ·)
  | _, _, _, _ => false
def planOk (ops : Array Oper) (W tk : List Nat) (p : Plan) : Bool := waitsOk ops W && decide (p.len ≤ ops.size) && planB ops W tk p (Array.replicate ops.size false) [] none

/-- The frame has in a slot what it had. -/
def sameAt (s : Option Tmp) (e e' : Fr) : Prop := match s with | some t => e'.v t = e.v t | none => False
section
variable (P : Program) (B : World)
/-- The c-th operation, done again, yields what it did. -/
def chkS (ops : Array Oper) (c : Nat) (e : Fr) (σ : St) : Prop := atS P B c ops ops.toList (fun e' _ => sameAt ((ops[c]?).bind (·.dst)) e e') e σ
def chks (ops : Array Oper) : List Nat → Fr → St → Prop
  | [], _, _ => True
  | c :: cs, e, σ => chkS P B ops c e σ ∧ chks ops cs e σ
/-- A step of a plan: the pending ones are looked at, then it goes on. -/
def stepP (ops : Array Oper) (cs : List Nat) (K : Fr → St → Prop) (e : Fr) (σ : St) : Prop := chks P B ops cs e σ ∧ K e σ
def runP (ops : Array Oper) : Plan → (Fr → St → Prop) → Fr → St → Prop
  | .fin, K, e, σ => K e σ
  | .stop, _, _, _ => True
  | .eag i p, K, e, σ => atS P B i ops ops.toList (runP ops p K) e σ
  | .eagq i p, K, e, σ => atS P B i ops ops.toList (runP ops p K) e σ
  | .alt j cs p q, K, e, σ => atS P B j ops ops.toList (stepP P B ops cs (runP ops p K)) e σ ∧ runP ops q K e σ
end

theorem chks_mem {e : Fr} {σ : St} : ∀ {cs : List Nat} {c : Nat}, chks P B ops cs e σ → c ∈ cs → chkS P B ops c e σ
  | c' :: cs, c, h, hc => by
    rcases List.mem_cons.1 hc with rfl | hc
    · exact h.1
    · exact chks_mem h.2 hc

theorem freeB_spec {L : Array Bool} {i : Nat} {oi : Oper} (h : freeB ops W L i oi = true) : FreeT ops W L i oi := by
  intro j o hj hji hun hw
  have hjs := (Array.getElem?_eq_some_iff.1 hj).1
  have h1 := List.all_eq_true.1 h j (List.mem_range.2 hjs)
  simp only [hji, decide_false, Bool.false_or, hun, hw, hj, Bool.and_eq_true] at h1
  obtain ⟨h2, h3⟩ := h1
  refine ⟨fun t ht hm => ?_, fun t ht he => ?_, fun t ht hm => ?_⟩
  · rw [ht] at h2
    simp only [Bool.and_eq_true, Bool.not_eq_true'] at h2
    rw [List.contains_eq_mem] at h2
    simp [hm] at h2
  · rw [ht] at h2
    simp only [Bool.and_eq_true] at h2
    have := h2.2
    simp [he] at this
  · rw [ht] at h3
    simp only [Bool.not_eq_true'] at h3
    rw [List.contains_eq_mem] at h3
    simp [hm] at h3

/-- What is known of the pending ones. -/
structure PsOk (ops : Array Oper) (L : Array Bool) (e : Fr) (ps : List (Nat × Oper × Value)) : Prop where
  at_ : ∀ x ∈ ps, ops[x.1]? = some x.2.1 ∧ isQ x.2.1.op = true ∧ L.getD x.1 true = true ∧ ∃ t, x.2.1.dst = some t ∧ e.v t = x.2.2

theorem Is.tm {a : Act} {n : Nat} {e : Fr} (h : Is a n e) (t : Nat) : e.v t = a.tmps.getD t undef := (h.v t).symm

theorem plan_any {n : Nat} (D : Dok ops) (hW : waitsOk ops W = true) {tk : List Nat} (hQ : ∀ c a w, ¬ Q (.panic c) a w) {K : Fr → St → Prop}
    (hdst : ∀ (i : Nat) (o : Oper), ops[i]? = some o → ∀ t, o.dst = some t → t < n) (hn : ∀ a' e' σ' w', Is a' n e' → Rel B w' σ' → K e' σ' → Q .normal a' w') :
    ∀ (p : Plan) (L : Array Bool) (ps : List (Nat × Oper × Value)) (e : Fr) (σ : St) (a : Act) (w : World) (f : Nat), Is a n e → Rel B w σ → Closed ops L → L.size = ops.size → PsOk ops L e ps → runP P B ops p K e σ →
      (planB ops W tk p L (ps.map (·.1)) none = true → p.len ≤ f → wpT r P ops W Q tk ps f L a w) ∧
      (∀ A, planB ops W tk p L (ps.map (·.1)) (some A) = true → p.len ≤ f + 1 → ∀ i ∈ Region.ready .any ops L, i ∉ A →
        wpOpIn (FR r) 0 P ops Q i (fun a' w' => Pend P ops W ps i a' w' ∧ wpT r P ops W Q tk ps f (L.setIfInBounds i true) a' w') a w) := by
  have hsel := D.plain
  intro p
  have one : ∀ (i : Nat) (X : Fr → St → Prop) (next : Act → World → Prop) (e : Fr) (σ : St) (a : Act) (w : World), Is a n e → Rel B w σ → atS P B i ops ops.toList X e σ →
      (∀ o a' e' σ' w', ops[i]? = some o → Is a' n e' → (∀ t, o.dst ≠ some t → e'.v t = e.v t) → Rel B w' σ' → X e' σ' → next a' w') → wpOpIn (FR r) 0 P ops Q i next a w := by
    intro i X next e σ a w ha hw h hnext
    obtain ⟨o, ho, hb⟩ := atS_spec _ _ h
    have ho' : ops[i]? = some o := by simpa using ho
    have key : wpOpIn (FR r) 0 P ops Q i (fun a' w' => ∃ e' σ', Is a' n e' ∧ Rel B w' σ' ∧ X e' σ') a w := by
      unfold wpOpIn
      simp only [ho', wanted_gd ha]
      cases hg : gd ops o e with
      | true =>
        simp only [if_true]
        exact opS_wp (.inr (D.plain i o ho').2) (hdst i o ho') ha hw (hb.1 hg) fun a' e' σ' w' h1 h2 h3 => ⟨e', σ', h1, h2, h3⟩
      | false =>
        simp only [Bool.false_eq_true, if_false]
        exact ⟨fun _ _ => trivial, _, _, ha.put _ _ (hdst i o ho'), hw, hb.2 hg⟩
    refine wpOpIn_mono (fun a' w' h' => ?_) (op_frame ho' hQ key)
    obtain ⟨⟨u, ds, rfl⟩, e', σ', h1, h2, h3⟩ := h'
    refine hnext o _ e' σ' w' ho' h1 (fun t ht => ?_) h2 h3
    rw [h1.tm, ha.tm]
    show (a.put o.dst u).tmps.getD t undef = _
    cases hd : o.dst with
    | none => rfl
    | some s =>
      have hst : s ≠ t := fun e' => ht (by rw [hd, e'])
      simp only [Act.put, Array.getD_eq_getD_getElem?]
      rw [Array.getElem?_setIfInBounds_ne hst]
  induction p with
  | fin =>
    intro L ps e σ a w f ha hw hc hL hp h
    refine ⟨fun hpl _ => ?_, fun A hpl => by simp [planB] at hpl⟩
    have hr : Region.ready .any ops L = [] := by simpa [planB] using hpl
    cases f with
    | zero => exact ⟨hr, hn _ _ _ _ ha hw h⟩
    | succ f => exact ⟨fun _ => hn _ _ _ _ ha hw h, fun i hi => by rw [hr] at hi; cases hi⟩
  | stop =>
    intro L ps e σ a w f ha hw hc hL hp h
    refine ⟨fun hp => by simp [planB] at hp, fun A hp _ i hi hA => ?_⟩
    simp only [planB, List.all_eq_true, List.contains_eq_mem, decide_eq_true_eq] at hp
    exact absurd (hp i hi) hA
  | eag i p ih =>
    intro L ps e σ a w f ha hw hc hL hps h
    refine ⟨fun hp hl => ?_, fun A hp => by simp [planB] at hp⟩
    obtain ⟨o, ho, hb⟩ := atS_spec _ _ h
    have ho' : ops[i]? = some o := by simpa using ho
    simp only [planB, takeB, ho', Bool.and_eq_true] at hp
    obtain ⟨⟨⟨⟨⟨hpure, hfree⟩, hun⟩, htk⟩, hr⟩, hp⟩ := hp
    cases f with
    | zero => simp [Plan.len] at hl
    | succ f =>
      have hl' : p.len ≤ f := by simp only [Plan.len] at hl; omega
      have key : ∃ v, (∀ w, Yd P ops o v a w) ∧ runP P B ops p K (e.put o.dst v) σ := by
        cases hg : gd ops o e with
        | true =>
          have h1 := hb.1 hg
          unfold opS at h1
          rw [pure_q hpure] at h1
          obtain ⟨v, hv, hx⟩ := h1
          exact ⟨v, fun w => .inl ⟨by rw [wanted_gd ha]; exact hg, by rw [ha.eval]; exact pure_run hpure hv o rfl w⟩, hx⟩
        | false => exact ⟨undef, fun w => .inr ⟨by rw [wanted_gd ha]; exact hg, rfl⟩, hb.2 hg⟩
      obtain ⟨v, hy, hx⟩ := key
      have hr' : i ∈ Region.ready .any ops L := by simpa using hr
      have hps' : ∀ x ∈ ps, (∀ cs b, x.2.1.op ≠ .select cs b) ∧ ∀ t, o.dst = some t → t ∉ x.2.1.looksAt ops := fun x hx => by
        obtain ⟨h1, _⟩ := hps.at_ x hx
        refine ⟨(hsel _ _ h1).1, fun t ht hm => ?_⟩
        have := List.all_eq_true.1 hun x.1 (List.mem_map.2 ⟨x, hx, rfl⟩)
        simp only [h1, ht, Bool.not_eq_true'] at this
        rw [List.contains_eq_mem] at this
        simp [hm] at this
      have hun' := (mem_ready.1 hr').1
      refine wpT_pure hW ho' (by simpa using htk) hQ hsel hps' f L a w hc (freeB_spec hfree) hr' hy ?_
      refine (ih _ _ _ _ _ _ f (ha.put _ _ (hdst i o ho')) hw (hc.set hr') (by simp [hL]) ⟨fun x hx => ?_⟩ hx).1 hp hl'
      obtain ⟨h1, h2, h3, t, h4, h5⟩ := hps.at_ x hx
      have hxi : x.1 ≠ i := fun e1 => by rw [e1, hun'] at h3; cases h3
      refine ⟨h1, h2, by rw [getD_set_ne true (Ne.symm hxi)]; exact h3, t, h4, ?_⟩
      cases hd : o.dst with
      | none => exact h5
      | some s =>
        have : t ≠ s := fun e1 => hxi (D.once _ _ _ _ t ho' h1 h4 (by rw [hd, e1]))
        rw [put_ne _ _ this]; exact h5
  | eagq i p ih =>
    intro L ps e σ a w f ha hw hc hL hps h
    refine ⟨fun hp hl => ?_, fun A hp => by simp [planB] at hp⟩
    obtain ⟨o, ho, hb⟩ := atS_spec _ _ h
    have ho' : ops[i]? = some o := by simpa using ho
    simp only [planB, takeB, ho', Bool.and_eq_true] at hp
    obtain ⟨⟨⟨⟨⟨⟨hq, hself⟩, hfree⟩, hun⟩, htk⟩, hr⟩, hp⟩ := hp
    cases f with
    | zero => simp [Plan.len] at hl
    | succ f =>
      have hl' : p.len ≤ f := by simp only [Plan.len] at hl; omega
      have key : ∃ v, Yd P ops o v a w ∧ runP P B ops p K (e.put o.dst v) σ := by
        cases hg : gd ops o e with
        | true =>
          have h1 := hb.1 hg
          unfold opS at h1
          rw [hq] at h1
          obtain ⟨v, hv, hx⟩ := h1
          exact ⟨v, .inl ⟨by rw [wanted_gd ha]; exact hg, by rw [ha.eval]; exact run_qv hw hv o rfl⟩, hx⟩
        | false => exact ⟨undef, .inr ⟨by rw [wanted_gd ha]; exact hg, rfl⟩, hb.2 hg⟩
      obtain ⟨v, hy, hx⟩ := key
      have hr' : i ∈ Region.ready .any ops L := by simpa using hr
      have hps' : ∀ x ∈ ps, (∀ cs b, x.2.1.op ≠ .select cs b) ∧ ∀ t, o.dst = some t → t ∉ x.2.1.looksAt ops := fun x hx => by
        obtain ⟨h1, _⟩ := hps.at_ x hx
        refine ⟨(hsel _ _ h1).1, fun t ht hm => ?_⟩
        have := List.all_eq_true.1 hun x.1 (List.mem_map.2 ⟨x, hx, rfl⟩)
        simp only [h1, ht, Bool.not_eq_true'] at this
        rw [List.contains_eq_mem] at this
        simp [hm] at this
      have hun' := (mem_ready.1 hr').1
      obtain ⟨s, hd⟩ : ∃ s, o.dst = some s := by
        cases hd : o.dst with
        | none => rw [hd] at hself; cases hself
        | some s => exact ⟨s, rfl⟩
      have hself' : ∀ t, o.dst = some t → t ∉ o.looksAt ops := fun t ht hm => by
        rw [ht] at hself
        simp only [Bool.not_eq_true'] at hself
        rw [List.contains_eq_mem] at hself
        simp [hm] at hself
      refine wpT_first hW ho' (by simpa using htk) hQ hsel hself' hps' f L a w hc (freeB_spec hfree) hr' hy ?_
      refine (ih _ ((i, o, v) :: ps) _ _ _ _ f (ha.put _ _ (hdst i o ho')) hw (hc.set hr') (by simp [hL]) ⟨fun x hx => ?_⟩ hx).1 (by simpa using hp) hl'
      have his : i < L.size := by rw [hL]; exact (Array.getElem?_eq_some_iff.1 ho').1
      rcases List.mem_cons.1 hx with rfl | hx
      · exact ⟨ho', hq, by simp [his], s, hd, by rw [hd, put_same]⟩
      · obtain ⟨h1, h2, h3, t, h4, h5⟩ := hps.at_ x hx
        have hxi : x.1 ≠ i := fun e1 => by rw [e1, hun'] at h3; cases h3
        refine ⟨h1, h2, by rw [getD_set_ne true (Ne.symm hxi)]; exact h3, t, h4, ?_⟩
        have : t ≠ s := fun e1 => hxi (D.once _ _ _ _ t ho' h1 h4 (by rw [hd, e1]))
        rw [hd, put_ne _ _ this]; exact h5
  | alt i cs p q ihp ihq =>
    intro L ps e σ a w f ha hw hc hL hps h
    obtain ⟨h1, h2⟩ := h
    have go : ∀ f, i ∈ Region.ready .any ops L → (ps.map (·.1)).all (fun c => wt W i c || cs.contains c) = true → planB ops W tk p (L.setIfInBounds i true) (ps.map (·.1)) none = true → p.len ≤ f →
        wpOpIn (FR r) 0 P ops Q i (fun a' w' => Pend P ops W ps i a' w' ∧ wpT r P ops W Q tk ps f (L.setIfInBounds i true) a' w') a w := fun f hr hcs hp hl => by
      have hun' := (mem_ready.1 hr).1
      refine one i _ _ e σ a w ha hw h1 fun o a' e' σ' w' ho ha' hfr hw' hx => ?_
      have hps' : PsOk ops (L.setIfInBounds i true) e' ps := ⟨fun x hx' => by
        obtain ⟨h1, h2, h3, t, h4, h5⟩ := hps.at_ x hx'
        have hxi : x.1 ≠ i := fun e1 => by rw [e1, hun'] at h3; cases h3
        refine ⟨h1, h2, by rw [getD_set_ne true (Ne.symm hxi)]; exact h3, t, h4, ?_⟩
        rw [hfr t fun hd => hxi (D.once _ _ _ _ t ho h1 h4 hd)]; exact h5⟩
      refine ⟨fun x hxp hwx => ?_, (ihp _ _ _ _ _ _ f ha' hw' (hc.set hr) (by simp [hL]) hps' hx.2).1 hp hl⟩
      have hm := List.all_eq_true.1 hcs x.1 (List.mem_map.2 ⟨x, hxp, rfl⟩)
      simp only [hwx, Bool.false_or, List.contains_eq_mem, decide_eq_true_eq] at hm
      have hck := chks_mem hx.1 hm
      obtain ⟨h1, h2, h3, t, h4, h5⟩ := hps'.at_ x hxp
      unfold chkS at hck
      obtain ⟨oc, hoc, hbc⟩ := atS_spec _ _ hck
      have : oc = x.2.1 := by simpa [h1] using hoc.symm
      subst this
      cases hg : gd ops x.2.1 e' with
      | true =>
        have h6 := hbc.1 hg
        unfold opS at h6
        rw [h2] at h6
        obtain ⟨v', hv', hs⟩ := h6
        simp only [h1, Option.bind_some, h4, sameAt, put_same] at hs
        refine .inl ⟨by rw [wanted_gd ha']; exact hg, ?_⟩
        rw [ha'.eval, ← h5, ← hs]
        exact run_qv hw' hv' _ rfl
      | false =>
        have h6 := hbc.2 hg
        simp only [skipK, h1, Option.bind_some, h4, sameAt, put_same] at h6
        exact .inr ⟨by rw [wanted_gd ha']; exact hg, by rw [← h5, ← h6]⟩
    refine ⟨fun hp hl => ?_, fun A hp hl j hj hA => ?_⟩
    · simp only [planB, Bool.and_eq_true] at hp
      obtain ⟨⟨⟨⟨hr, htk⟩, hcs⟩, hp⟩, hq⟩ := hp
      cases f with
      | zero => simp only [Plan.len] at hl; omega
      | succ f =>
        simp only [Plan.len] at hl
        have hr' : i ∈ Region.ready .any ops L := by simpa using hr
        refine ⟨fun h0 => (by rw [h0] at hr'; cases hr'), fun j hj => ⟨fun ht => ?_, fun ht => ?_⟩⟩
        · have := List.all_eq_true.1 htk j hj
          simp only [Bool.not_eq_true'] at this
          rw [List.contains_eq_mem] at this
          simp [ht] at this
        · by_cases hji : j = i
          · subst hji; exact go f hr' hcs hp (by omega)
          · exact (ihq L ps e σ a w f ha hw hc hL hps h2).2 [i] hq (by omega) j hj (by simpa using hji)
    · simp only [planB, Bool.and_eq_true] at hp
      obtain ⟨⟨hcs, hp⟩, hq⟩ := hp
      simp only [Plan.len] at hl
      by_cases hji : j = i
      · subst hji; exact go f hj hcs hp (by omega)
      · exact (ihq L ps e σ a w f ha hw hc hL hps h2).2 (i :: A) hq (by omega) j hj (by simp [hji, hA])

/-- **A REGION BY A PLAN.** -/
theorem AnyS.of_plan {K : Fr → St → Prop} {e : Fr} {σ : St} (W tk : List Nat) (p : Plan) (hp : planOk ops W tk p = true) (h : runP P B ops p K e σ) : AnyS P B ops K e σ := by
  intro r n id Q a w hm hD hdst ha hw hn
  simp only [planOk, Bool.and_eq_true, decide_eq_true_eq] at hp
  obtain ⟨⟨h1, h2⟩, h3⟩ := hp
  have D := dok_spec hD
  refine wpIn_mono (Q := fun x a w => x = .normal ∧ Q .normal a w) (wpIn_region_any hm ?_) ?_
  · refine wpT_any (tk := tk) (ps := []) (W := W) D.plain _ _ _ _ ?_
    refine (plan_any D h1 (fun c a w h => by cases h.1) hdst (fun a' e' σ' w' ha' hw' hk => ⟨rfl, hn a' e' σ' w' ha' hw' hk⟩) p _ [] e σ a _ ops.size ha (hw.drawn _) ?_ (by simp) ⟨fun x hx => by cases hx⟩ h).1 (by simpa using h3) h2
    intro j o hj hl x hx hb
    rw [getD_replicate_false] at hl; cases hl
  · rintro x a w ⟨rfl, h⟩; exact h
end

section
variable {P : Program} {B : World} {σ : St} {e e' e0 : Fr} {K : Fr → St → Prop} {X : DC → Fr → St → Prop} {c0 : Bool}
theorem effD_plan {ops : Array Oper} {i : Nat} {o : Oper} {rest : List Oper} (W tk : List Nat) (p : Plan) (hp : planOk ops W tk p = true) (h : runP P B ops p K e0 σ) : effD P B ops i o rest K X ⟨c0, true, e0⟩ e σ := effD_any (.of_plan W tk p hp h)
@[go_sem] theorem runP_fin {ops : Array Oper} : runP P B ops .fin K e σ = K e σ := rfl
@[go_sem] theorem runP_stop {ops : Array Oper} : runP P B ops .stop K e σ = True := rfl
@[go_sem ↓] theorem runP_eag {l : List Oper} {i : Nat} {p : Plan} : runP P B l.toArray (.eag i p) K e σ = atS P B i l.toArray l (runP P B l.toArray p K) e σ := rfl
@[go_sem ↓] theorem runP_eagq {l : List Oper} {i : Nat} {p : Plan} : runP P B l.toArray (.eagq i p) K e σ = atS P B i l.toArray l (runP P B l.toArray p K) e σ := rfl
@[go_sem ↓] theorem runP_one {l : List Oper} {i : Nat} {cs : List Nat} {p : Plan} : runP P B l.toArray (.alt i cs p .stop) K e σ = atS P B i l.toArray l (stepP P B l.toArray cs (runP P B l.toArray p K)) e σ := by
  simp [runP]
@[go_sem ↓ low] theorem runP_alt {l : List Oper} {i : Nat} {cs : List Nat} {p q : Plan} : runP P B l.toArray (.alt i cs p q) K e σ = (atS P B i l.toArray l (stepP P B l.toArray cs (runP P B l.toArray p K)) e σ ∧ runP P B l.toArray q K e σ) := rfl
@[go_sem ↓] theorem stepP_nil {ops : Array Oper} : stepP P B ops [] K e σ = K e σ := by simp [stepP, chks]
@[go_sem ↓ low] theorem stepP_cons {ops : Array Oper} {c : Nat} {cs : List Nat} : stepP P B ops (c :: cs) K e σ = (chkS P B ops c e σ ∧ stepP P B ops cs K e σ) := by
  simp [stepP, chks, and_assoc]
@[go_sem ↓] theorem chkS_eq {l : List Oper} {c : Nat} : chkS P B l.toArray c e σ = atS P B c l.toArray l (fun e' _ => sameAt (slotOf l c) e e') e σ := by
  simp only [chkS, slotOf_eq, List.getElem?_toArray]
@[go_sem] theorem sameAt_some {t : Tmp} : sameAt (some t) e e' = (e'.v t = e.v t) := rfl
end
end Go.Proofs.YtdbgeahmhfocaaaGreat
