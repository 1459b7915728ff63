/- Maps whose keys are numbers. -/
import Derived.Test.YtdbgeahmhfocaaaGreatEngZ
namespace Go.Proofs.YtdbgeahmhfocaaaGreat
set_option linter.unusedSimpArgs false
set_option linter.unusedVariables false
open Go Go.RowKit

abbrev Mp := List (Int × Value)
def ents : Mp → Nat → List MapEntry
  | [], _ => []
  | (k, v) :: l, i => ⟨.int .i64 k, v, i⟩ :: ents l (i + 1)
/-- A map's block. -/
def mapO (l : Mp) : Go.Obj := .map (ents l 0).toArray l.length
def mget : Mp → Int → Option Value
  | [], _ => none
  | (k, v) :: l, x => if x = k then some v else mget l x
def mput : Mp → Int → Value → Mp
  | [], x, y => [(x, y)]
  | (k, v) :: l, x, y => if x = k then (x, y) :: l else (k, v) :: mput l x y
theorem mget_put (l : Mp) (x : Int) (v : Value) (y : Int) : mget (mput l x v) y = if y = x then some v else mget l y := by
  induction l with
  | nil => simp [mput, mget]
  | cons p l ih =>
    obtain ⟨k, u⟩ := p
    unfold mput
    by_cases h : x = k
    · subst h
      rw [if_pos rfl]
      simp only [mget]
      split <;> rfl
    · rw [if_neg h]
      simp only [mget, ih]
      by_cases h1 : y = k
      · have : ¬ y = x := by omega
        simp [h1, Ne.symm h]
      · simp [h1]
def mfind : Mp → Int → Nat → Option (Nat × Value)
  | [], _, _ => none
  | (k, v) :: l, x, i => if x = k then some (i, v) else mfind l x (i + 1)
theorem find_ents (q : IntKind) (x : Int) : ∀ (l : Mp) (i j : Nat), Instr.findNow (.int q) (.int .i64 x) (ents l j) i = some (mfind l x i)
  | [], i, j => rfl
  | (k, v) :: l, i, j => by
    unfold ents Instr.findNow mfind
    simp only [Instr.sameNow, if_true]
    by_cases h : x = k
    · subst h; simp
    · have : (x == k) = false := by simpa using h
      rw [this, if_neg h]
      exact find_ents q x l (i + 1) (j + 1)
theorem mfind_get (x : Int) : ∀ (l : Mp) (i : Nat), (mfind l x i).map (fun z => z.2) = mget l x
  | [], _ => rfl
  | (k, v) :: l, i => by
    unfold mfind mget
    split
    · rfl
    · exact mfind_get x l (i + 1)
theorem mfind_none (x : Int) (y : Value) : ∀ (l : Mp) (i : Nat), mfind l x i = none → mput l x y = l ++ [(x, y)]
  | [], _, _ => rfl
  | (k, v) :: l, i, h => by
    unfold mfind at h
    split at h
    · cases h
    · rename_i hn
      simp only [mput, if_neg hn, List.cons_append, mfind_none x y l (i + 1) h]
theorem mfind_ge (x : Int) : ∀ (l : Mp) (i j : Nat) (v : Value), mfind l x i = some (j, v) → i ≤ j
  | [], _, _, _, h => by simp [mfind] at h
  | (k, u) :: l, i, j, v, h => by
    unfold mfind at h
    split at h
    · simp only [Option.some.injEq, Prod.mk.injEq] at h; omega
    · have := mfind_ge x l (i + 1) j v h; omega
theorem mfind_some (x : Int) (y : Value) : ∀ (l : Mp) (i j b : Nat) (v : Value), mfind l x i = some (j, v) → (ents l b).modify (j - i) (fun e => { e with key := .int .i64 x, val := y }) = ents (mput l x y) b ∧ (mput l x y).length = l.length
  | [], _, _, _, _, h => by simp [mfind] at h
  | (k, u) :: l, i, j, b, v, h => by
    unfold mfind at h
    split at h
    · rename_i he
      subst he
      simp only [Option.some.injEq, Prod.mk.injEq] at h
      obtain ⟨rfl, _⟩ := h
      simp [mput, ents]
    · rename_i hn
      have hge := mfind_ge x l (i + 1) j v h
      obtain ⟨h1, h2⟩ := mfind_some x y l (i + 1) j (b + 1) v h
      have hj : j - i = (j - (i + 1)) + 1 := by omega
      simp only [mput, if_neg hn, ents, hj, List.modify_succ_cons, h1, List.length_cons, h2, and_self]
theorem ents_length : ∀ (l : Mp) (i : Nat), (ents l i).length = l.length
  | [], _ => rfl
  | (k, v) :: l, i => by simp [ents, ents_length l (i + 1)]
theorem ents_append : ∀ (l : Mp) (i : Nat) (x : Int) (v : Value), ents (l ++ [(x, v)]) i = ents l i ++ [⟨.int .i64 x, v, i + l.length⟩]
  | [], i, x, v => by simp [ents]
  | (k, u) :: l, i, x, v => by
    simp only [List.cons_append, ents, ents_append l (i + 1) x v, List.length_cons]
    congr 4; omega

section
variable {P : Program} {B : World} {σ : St} {e : Fr} {t : TypeId} {d : Option Tmp} {K : Fr → St → Prop}
/-- Are a map's keys numbers? The zero value of its elements. -/
def mky (P : Program) (t : TypeId) : Option Value :=
  match P.underlying t with
  | some (.map key elem) => match P.underlying key with | some (.int .i64) => zr P elem | _ => none
  | _ => none
theorem lk_mapO {r : Nat} {x : Int} {l : Mp} {z : Value} {ok : Bool} (hm : σ.m r = some (.raw (mapO l))) (hz : mky P t = some z) :
    lk P σ t (.map (some r)) (.int .i64 x) ok = some (if ok then .tuple #[(mget l x).getD z, .bool (mget l x).isSome] else (mget l x).getD z) := by
  unfold mky at hz
  split at hz <;> first | contradiction | skip
  rename_i key elem hu
  split at hz <;> first | contradiction | skip
  rename_i hk
  unfold lk
  simp only [hu, hk, hz, plainKey, if_true, hm, mapO, List.toList_toArray, find_ents]
  have := mfind_get x l 0
  cases hf : mfind l x 0 with
  | none =>
    rw [hf] at this
    rw [← this]
    cases ok <;> rfl
  | some p =>
    obtain ⟨j, v⟩ := p
    rw [hf] at this
    rw [← this]
    cases ok <;> rfl
theorem lk_nil {x : Int} {z : Value} {ok : Bool} (hz : mky P t = some z) : lk P σ t (.map none) (.int .i64 x) ok = some (if ok then .tuple #[z, .bool false] else z) := by
  unfold mky at hz
  split at hz <;> first | contradiction | skip
  rename_i key elem hu
  split at hz <;> first | contradiction | skip
  rename_i hk
  unfold lk
  simp only [hu, hk, hz, plainKey, if_true]
theorem mus_mapO {r : Nat} {x : Int} {v : Value} {l : Mp} {z : Value} (hm : σ.m r = some (.raw (mapO l))) (hz : mky P t = some z) :
    mus P σ t (.map (some r)) (.int .i64 x) v = some (σ.set r (.raw (mapO (mput l x v)))) := by
  unfold mky at hz
  split at hz <;> first | contradiction | skip
  rename_i key elem hu
  split at hz <;> first | contradiction | skip
  rename_i hk
  unfold mus
  simp only [hu, hk, plainKey, if_true, hm, musK, mapO, List.toList_toArray, find_ents]
  cases hf : mfind l x 0 with
  | none =>
    simp only [mfind_none x v l 0 hf, ents_append, List.push_toArray, List.length_append, List.length_cons, List.length_nil, Nat.zero_add]
  | some p =>
    obtain ⟨j, u⟩ := p
    obtain ⟨h1, h2⟩ := mfind_some x v l 0 j 0 u hf
    simp only [Nat.sub_zero] at h1
    simp only [← h1, h2]
    congr 4
    apply Array.ext'
    simp
def lkV (z : Value) (ok : Bool) (o : Option Value) : Value := if ok then .tuple #[o.getD z, .bool o.isSome] else o.getD z
@[go_sem] theorem lkV_false {z : Value} {o : Option Value} : lkV z false o = o.getD z := rfl
@[go_sem] theorem lkV_true {z : Value} {o : Option Value} : lkV z true o = .tuple #[o.getD z, .bool o.isSome] := rfl
noncomputable def lk0 (P : Program) (σ : St) (t : TypeId) (x i : Value) (ok : Bool) : Option Value := lk P σ t x i ok
def lkM (o : Option Value) (z : Value) (ok : Bool) (x : Int) : Option HP → Option Value
  | some (.raw (.map es c)) =>
    match Instr.findNow (.int .i64) (.int .i64 x) es.toList 0 with
    | some r => some (lkV z ok (r.map fun p => p.2))
    | none => o
  | _ => o
def lkQ (o z : Option Value) (ok : Bool) (x : Int) (h : Option HP) : Option Value := match z with | some z => lkM o z ok x h | none => o
@[go_sem] theorem lk_go {r : Nat} {x : Int} {ok : Bool} : lk P σ t (.map (some r)) (.int .i64 x) ok = lkQ (lk0 P σ t (.map (some r)) (.int .i64 x) ok) (mky P t) ok x (σ.m r) := by
  unfold lkQ
  split
  · rename_i z hz
    unfold lkM
    split
    · rename_i es c hm
      unfold lk0
      unfold mky at hz
      split at hz <;> first | contradiction | skip
      rename_i key elem hu
      split at hz <;> first | contradiction | skip
      rename_i hk
      simp only [lk, hu, hk, hz, plainKey, if_true, hm]
      generalize Instr.findNow (.int .i64) (.int .i64 x) es.toList 0 = q
      cases q with
      | none => rfl
      | some r' =>
        cases r' with
        | none => cases ok <;> rfl
        | some p => obtain ⟨j, v⟩ := p; cases ok <;> rfl
    · rfl
  · rfl
@[go_sem] theorem lkQ_some {o : Option Value} {z : Value} {ok : Bool} {x : Int} {h : Option HP} : lkQ o (some z) ok x h = lkM o z ok x h := rfl
@[go_sem] theorem lkM_mapO {o : Option Value} {z : Value} {ok : Bool} {x : Int} {l : Mp} : lkM o z ok x (some (.raw (mapO l))) = some (lkV z ok (mget l x)) := by
  simp only [lkM, mapO, List.toList_toArray, find_ents, mfind_get]
noncomputable def mus0 (P : Program) (σ : St) (t : TypeId) (m k v : Value) : Option St := mus P σ t m k v
def musM (o : Option St) (r : Nat) (x : Int) (v : Value) (σ : St) : Option HP → Option St
  | some (.raw (.map es c)) => musK (.int .i64) r (.int .i64 x) v σ (some (.raw (.map es c)))
  | _ => o
def musQ (o : Option St) (z : Option Value) (r : Nat) (x : Int) (v : Value) (σ : St) (h : Option HP) : Option St := match z with | some _ => musM o r x v σ h | none => o
@[go_sem] theorem mus_go {r : Nat} {x : Int} {v : Value} : mus P σ t (.map (some r)) (.int .i64 x) v = musQ (mus0 P σ t (.map (some r)) (.int .i64 x) v) (mky P t) r x v σ (σ.m r) := by
  unfold musQ
  split
  · rename_i z hz
    unfold musM
    split
    · rename_i es c hm
      unfold mky at hz
      split at hz <;> first | contradiction | skip
      rename_i key elem hu
      split at hz <;> first | contradiction | skip
      rename_i hk
      simp only [mus, hu, hk, plainKey, if_true, hm]
    · rfl
  · rfl
@[go_sem] theorem musQ_some {o : Option St} {z : Value} {r : Nat} {x : Int} {v : Value} {h : Option HP} : musQ o (some z) r x v σ h = musM o r x v σ h := rfl
@[go_sem] theorem musM_mapO {o : Option St} {r : Nat} {x : Int} {v : Value} {l : Mp} : musM o r x v σ (some (.raw (mapO l))) = some (σ.set r (.raw (mapO (mput l x v)))) := by
  simp only [musM, mapO, musK, List.toList_toArray, find_ents]
  cases hf : mfind l x 0 with
  | none =>
    simp only [mfind_none x v l 0 hf, ents_append, List.push_toArray, List.length_append, List.length_cons, List.length_nil, Nat.zero_add]
  | some p =>
    obtain ⟨j, u⟩ := p
    obtain ⟨h1, h2⟩ := mfind_some x v l 0 j 0 u hf
    simp only [Nat.sub_zero] at h1
    simp only [← h1, h2]
    congr 4
    apply Array.ext'
    simp
end
/-! ### Deferred calls -/
section
variable {P : Program} {B : World} {σ : St}
@[go_sem] theorem Leave_fn {f : FuncId} {cap args : Array Value} {ds : List Deferred} {K : St → Prop} : Leave P B (⟨.fn (.func f) cap, args⟩ :: ds) σ K = DFn P B f (args ++ cap) σ fun σ' => Leave P B ds σ' K := rfl
def dretQ (P : Program) (B : World) (rs : Array ResultVar) (K : St → Prop) : Exit → Fr → St → Prop := fun x e σ' => (x = .normal ∨ x = .ret) ∧ e.d = [] ∧ (∃ vs, resL P B σ' e rs.toList = some vs) ∧ K σ'
@[go_sem] theorem dretQ_normal {rs : Array ResultVar} {K : St → Prop} {e : Fr} : dretQ P B rs K .normal e σ = (e.d = [] ∧ (∃ vs, resL P B σ e rs.toList = some vs) ∧ K σ) := by simp [dretQ]
@[go_sem] theorem dretQ_ret {rs : Array ResultVar} {K : St → Prop} {e : Fr} : dretQ P B rs K .ret e σ = (e.d = [] ∧ (∃ vs, resL P B σ e rs.toList = some vs) ∧ K σ) := by simp [dretQ]
theorem DFn.of' {f : FuncId} {n : Nat} {c : Code} {rs : Array ResultVar} (hf : FnIs P f n c rs) {args : Array Value} (hsz : args.size ≤ n) {K : St → Prop} (h : σ.wf B → wpS P B none n c (dretQ P B rs K) (fr0 args) σ) : DFn P B f args σ K := DFn.of hf hsz h
end
@[go_sem] theorem mapO_nil : (.map #[] 0 : Go.Obj) = mapO [] := rfl
@[go_sem] theorem eqB_map_some' {x : Nat} {k : Option Nat} : eqB .map (.map (some x)) (.map none) = some (.bool false) := rfl
end Go.Proofs.YtdbgeahmhfocaaaGreat
