/- From a body's walk to a function's contract; loops by an invariant; rounds. -/
import Derived.Test.YtdbgeahmhfocaaaGreatEngG
namespace Go.Proofs.YtdbgeahmhfocaaaGreat
set_option linter.unusedSimpArgs false
set_option linter.unusedVariables false
open Go Go.RowKit

section
variable {P : Program} {B : World}

theorem run_results (fn : Func) {a : Act} {n : Nat} {e : Fr} (ha : Is a n e) {σ : St} {w : World} (hw : Rel B w σ) {vs : List Value} (h : resL P B σ e fn.results.toList = some vs) :
    (results fn a.tmps).run P w = .ok (tup vs) w := by
  have key : ∀ (rs : List ResultVar) (vs : List Value), resL P B σ e rs = some vs →
      (rs.mapM (fun | .tmp t => pure (a.tmps.getD t undef) | .cell x t => do loadVar t (← asAddr (a.tmps.getD x undef)) : ResultVar → Sem Value)).run P w = .ok vs w := by
    intro rs
    induction rs with
    | nil => intro vs h; simp [resL] at h; simp [h]
    | cons r rs ih =>
      intro vs h
      cases r with
      | tmp t =>
        simp only [resL, Option.map_eq_some_iff] at h
        obtain ⟨l, hl, rfl⟩ := h
        have ih' := ih l hl
        simp only [ha.v] at ih'
        simp only [List.mapM_cons, Sem.run_bind, Sem.run_pure, Result.andThen_ok, ha.v, ih']
      | cell x t =>
        simp only [resL] at h
        split at h <;> first | contradiction | skip
        rename_i ad hx
        simp only [Option.bind_eq_some_iff, Option.map_eq_some_iff] at h
        obtain ⟨v, hv, l, hl, rfl⟩ := h
        have ih' := ih l hl
        simp only [ha.v] at ih'
        have has : (asAddr (.pointer (some ad))).run P w = .ok ad w := rfl
        simp only [List.mapM_cons, Sem.run_bind, ha.v, hx, has, Sem.run_pure, Result.andThen_ok, run_ldv hw hv, ih']
  have h1 := key _ _ h
  unfold results
  rw [Array.mapM_eq_mapM_toList]
  simp only [Sem.run_bind, Sem.run_map]
  erw [h1]
  simp only [Result.andThen_ok, Sem.run_pure]
  congr 1
  cases vs with
  | nil => simp [tup]
  | cons v l =>
    cases l with
    | nil => simp [tup]
    | cons v2 l => simp [tup]

theorem run_take {w : World} {r : Nat} (h : w.heap[r]? = some (.deferred (some []))) :
    (Instr.takeDeferred r).run P w = .ok [] { w with heap := w.heap.setIfInBounds r (.deferred none) } := by
  unfold Instr.takeDeferred
  simp only [Sem.run_bind, getObj, Sem.run, h, Result.andThen_ok, setObj, Sem.run_pure]

theorem leave_sound (fn : Func) {tm : Array Value} {K : St → Prop} {R : Ending → World → Prop}
    (hres : ∀ (σ : St) (w : World), Rel B w σ → K σ → ∃ v, (results fn tm).run P w = .ok v w ∧ R (.returned v) w) :
    ∀ (ds : List Deferred) (σ : St) (w : World), Rel B w σ → Leave P B ds σ K → LeavesInM Fence.wide 0 P fn tm R ds .returning w
  | [], σ, w, hw, h => hres σ w hw h
  | d :: ds, σ, w, hw, h => by
    refine ⟨by simp, ?_⟩
    simp only [Leave] at h
    split at h <;> first | contradiction | skip
    · rename_i r hr
      obtain ⟨hm, hl⟩ := h
      exact .inl ⟨r, _, hr, run_take (hw.raw hm), leave_sound fn hres ds _ _ (hw.upd hm _) hl⟩
    · rename_i f cap hf
      refine .inr ⟨fun h => by simp [Fence.wide] at h, .func f, cap, f, d.args ++ cap, hf, ?_, fun _ _ => trivial, ?_⟩
      · rw [hf]; exact run_callFunc_en h.1
      · refine CallsDIn.mono (h.2 w hw) ?_
        rintro e u' w' ⟨⟨v, rfl⟩, rfl, σ', hw', hl⟩
        exact leave_sound fn hres ds _ _ hw' hl

theorem is0 {n : Nat} {args : Array Value} (h : args.size ≤ n) : Is { tmps := args ++ Array.replicate (n - args.size) undef, defers := [] } n (fr0 args) := by
  refine ⟨by simp; omega, fun t => ?_, rfl⟩
  simp only [fr0, Array.getD_eq_getD_getElem?, Array.getElem?_append]
  split
  · rfl
  · rename_i hlt
    have h1 : args[t]? = none := by simp; omega
    rw [h1]
    cases hx : (Array.replicate (n - args.size) undef)[t - args.size]? with
    | none => rfl
    | some x => rw [Array.getElem?_replicate] at hx; split at hx <;> simp_all

/-- What must be known of a function's text. -/
structure FnIs (P : Program) (f : FuncId) (n : Nat) (c : Code) (rs : Array ResultVar) : Prop where
  mix : P.follows .mixedOrders = true
  is : ∃ fn, P.funcs[f]? = some fn ∧ fn.body = some c ∧ fn.ntmps = n ∧ fn.results = rs ∧ (fn.name == "runtime.NumGoroutine") = false
  ok : codeOk false n c = true

theorem FnIs.en {f : FuncId} {n : Nat} {c : Code} {rs : Array ResultVar} (h : FnIs P f n c rs) : ∃ fn, P.funcs[f]? = some fn ∧ (fn.name == "runtime.NumGoroutine") = false ∧ fn.body.isSome = true := by
  obtain ⟨fn, h1, h2, _, _, h5⟩ := h.is
  exact ⟨fn, h1, h5, by rw [h2]; rfl⟩

/-- **A FUNCTION's CONTRACT, FROM ITS BODY.** -/
theorem Fn.of {f : FuncId} {n : Nat} {c : Code} {rs : Array ResultVar} (hf : FnIs P f n c rs) {args : Array Value} (hsz : args.size ≤ n) {σ : St} {K : Value → St → Prop}
    (h : σ.wf B → wpS P B none n c (retQ P B rs K) (fr0 args) σ) : Fn P B f args σ K := by
  refine ⟨hf.en, fun w hw => ?_⟩
  obtain ⟨fn, h1, h2, h3, h4, h5⟩ := hf.is
  refine (callsIn_wide (n := 0)).1 (callsIn_of_wp_marks h1 h2 trivial ?_)
  rw [h3]
  have hs := wpS_sound (r := none) hf.mix c _ (fr0 args) σ hf.ok (h hw.wf) _ w (is0 hsz) hw
  refine wpIn_mono hs ?_
  rintro ex a' w' ⟨e', σ', ha', hw', hq⟩
  have fin : Leave P B e'.d σ' (fun σ' => bindK (resL P B σ' e' rs.toList) fun vs => K (tup vs) σ') → LeavesInM Fence.wide 0 P fn a'.tmps (retP B K) a'.defers .returning w' := by
    intro hl
    rw [ha'.d]
    refine leave_sound fn (K := fun σ' => bindK (resL P B σ' e' rs.toList) fun vs => K (tup vs) σ') (fun σ2 w2 hw2 hk => ?_) e'.d σ' w' hw' hl
    obtain ⟨vs, hvs, hK⟩ := hk
    rw [← h4] at hvs
    exact ⟨_, run_results fn ha' hw2 hvs, _, σ2, rfl, hw2, hK⟩
  cases ex with
  | normal => exact fin hq
  | ret => exact fin hq
  | _ => exact hq.elim

/-- A deferred function's contract, from its body. -/
theorem DFn.of {f : FuncId} {n : Nat} {c : Code} {rs : Array ResultVar} (hf : FnIs P f n c rs) {args : Array Value} (hsz : args.size ≤ n) {σ : St} {K : St → Prop}
    (h : σ.wf B → wpS P B none n c (fun x e σ' => (x = .normal ∨ x = .ret) ∧ e.d = [] ∧ (∃ vs, resL P B σ' e rs.toList = some vs) ∧ K σ') (fr0 args) σ) : DFn P B f args σ K := by
  refine ⟨hf.en, fun w hw => ?_⟩
  obtain ⟨fn, h1, h2, h3, h4, h5⟩ := hf.is
  have hs := wpS_sound (r := none) hf.mix c _ (fr0 args) σ hf.ok (h hw.wf) _ w (is0 hsz) hw
  refine CallsDIn.mono (callsDIn_of_wp (u := .returning) (R := fun e w' => (∃ v, e = .returned v) ∧ ∃ σ', Rel B w' σ' ∧ K σ') h1 h2 trivial ?_) ?_
  · rw [h3]
    refine wpIn_mono hs ?_
    rintro ex a' w' ⟨e', σ', ha', hw', hx, hd, ⟨vs, hvs⟩, hK⟩
    rw [← h4] at hvs
    have := run_results fn ha' hw' hvs
    rcases hx with rfl | rfl <;> exact ⟨by rw [ha'.d, hd], _, this, ⟨_, rfl⟩, σ', hw', hK⟩
  · rintro e u' w' ⟨rfl, h1, h2⟩
    exact ⟨h1, rfl, h2⟩

theorem least {p : Nat → Prop} (h : ∃ m, p m) : ∃ m, p m ∧ ∀ m', p m' → m ≤ m' := by
  obtain ⟨m, hm⟩ := h
  induction m using Nat.strongRecOn with
  | _ m ih =>
    by_cases hx : ∃ m', m' < m ∧ p m'
    · obtain ⟨m', hlt, hp⟩ := hx; exact ih m' hlt hp
    · refine ⟨m, hm, fun m' hp => ?_⟩
      rcases Nat.lt_or_ge m' m with hlt | hge
      · exact absurd ⟨m', hlt, hp⟩ hx
      · exact hge

open Classical in
noncomputable def leastOf (p : Nat → Prop) : Nat := if h : ∃ m, p m then Classical.choose (least h) else 0

theorem leastOf_spec {p : Nat → Prop} (h : ∃ m, p m) : p (leastOf p) ∧ ∀ m', p m' → leastOf p ≤ m' := by
  unfold leastOf
  rw [dif_pos h]
  exact Classical.choose_spec (least h)

/-- **A LOOP**, by what holds at each round's head; a number goes down. -/
theorem loop_rule {r : Option Nat} {n : Nat} {c : Code} {Q : Exit → Fr → St → Prop} {e : Fr} {σ : St} (I : Nat → Fr → St → Prop) (m : Nat) (h0 : I m e σ)
    (hr : ∀ m e σ, σ.wf B → I m e σ → wpS P B r n c (thenQ (fun e' σ' => ∃ m', m' < m ∧ I m' e' σ') Q) e σ) : LoopS P B r n c Q e σ := by
  intro hmix hok a w ha hw
  refine wpIn_loop (F := FR r) (n := 0) (fun a w => ∃ m e σ, Is a n e ∧ Rel B w σ ∧ I m e σ) (fun a w => leastOf fun m => ∃ e σ, Is a n e ∧ Rel B w σ ∧ I m e σ) ⟨m, e, σ, ha, hw, h0⟩ ?_
  clear h0 ha hw m a w e σ
  intro a w hex
  obtain ⟨⟨e, σ, ha, hw, hI⟩, _⟩ := leastOf_spec (p := fun m => ∃ e σ, Is a n e ∧ Rel B w σ ∧ I m e σ) hex
  have hb := wpS_sound hmix c _ e σ hok (hr _ e σ hw.wf hI) a w ha hw
  refine wpIn_mono hb ?_
  rintro ex a' w' ⟨e', σ', ha', hw', hq⟩
  cases ex with
  | normal =>
    obtain ⟨m', hlt, hI'⟩ := hq
    refine ⟨⟨m', e', σ', ha', hw', hI'⟩, Nat.lt_of_le_of_lt ?_ hlt⟩
    exact (leastOf_spec (p := fun m => ∃ e σ, Is a' n e ∧ Rel B w' σ ∧ I m e σ) ⟨m', e', σ', ha', hw', hI'⟩).2 m' ⟨e', σ', ha', hw', hI'⟩
  | _ => exact ⟨e', σ', ha', hw', hq⟩

/-! ### Rounds -/
/-- The frame in which a round begins: the slots as the loop's record bears them, the loop's variables assigned. -/
def frR (tm : Array Value) (ps : Array Tmp) (args : Array Value) : Fr := ⟨fun t => ((ps.zip args).foldl (fun tmps (t, a) => tmps.setIfInBounds t a) tm).getD t undef, []⟩

theorem foldl_size (l : List (Tmp × Value)) : ∀ (tm : Array Value), (l.foldl (fun tmps (x : Tmp × Value) => tmps.setIfInBounds x.1 x.2) tm).size = tm.size := by
  induction l with
  | nil => intro tm; rfl
  | cons x l ih => intro tm; simp only [List.foldl_cons]; rw [ih]; simp

/-- **WHAT A CALL OF 'yield' COMES TO**: the loop's variables are assigned; the record says that a round is on; the body. -/
theorem Rd.of (hmix : P.follows .mixedOrders = true) {l n : Nat} {args : Array Value} {σ : St} {K : Value → St → Prop} {rec : Loop} (hm : σ.m l = some (.raw (.loop rec))) (hsz : args.size = rec.params.size) (hn : rec.tmps.size = n)
    (hox : codeOk true n rec.assign = true) (hoy : codeOk true n rec.body = true)
    (h : wpS P B (some l) n rec.assign (fun x e σ1 => x = .normal ∧ ∃ rec1, σ1.m l = some (.raw (.loop rec1)) ∧ rec1.state = .ready ∧
        (wpS P B (some l) n rec.body (roundQ l K) e (σ1.set l (.raw (.loop { rec1 with state := .busy }))))) (frR rec.tmps rec.params args) σ) :
    Rd P B l args σ K := by
  refine ⟨rec, hm, hsz, fun w hw => ?_⟩
  refine roundIn_of_wpIn (F := Fence.wide) trivial ?_
  have hfold : (rec.params.zip args).foldl (fun tmps (t, a) => tmps.setIfInBounds t a) rec.tmps = ((rec.params.zip args).toList).foldl (fun tmps (x : Tmp × Value) => tmps.setIfInBounds x.1 x.2) rec.tmps := by
    rw [Array.foldl_toList]
  have his : Is { tmps := (rec.params.zip args).foldl (fun tmps (t, a) => tmps.setIfInBounds t a) rec.tmps, defers := [] } n (frR rec.tmps rec.params args) :=
    ⟨by simp only []; rw [hfold, foldl_size, hn], fun t => rfl, rfl⟩
  have h1 := wpS_sound (r := some l) hmix rec.assign _ _ σ hox h _ w his hw
  refine wpIn_mono (F := FR (some l)) h1 ?_
  rintro ex a1 w1 ⟨e1, σ1, ha1, hw1, rfl, rec1, hm1, hst, hb⟩
  have hl1 := hw1.raw hm1
  have hbr : (Instr.beginRound l).run P w1 = .ok () { w1 with heap := w1.heap.setIfInBounds l (.loop { rec1 with state := .busy }) } := by
    simp only [Instr.beginRound, Sem.run_bind, run_getLoop hl1, Result.andThen_ok, run_setObj _ hl1, hst, Sem.run_pure]
  refine ⟨_, hbr, ?_⟩
  have hw2 := hw1.upd hm1 (.loop { rec1 with state := .busy })
  have h2 := wpS_sound (r := some l) hmix rec.body _ _ _ hoy hb a1 _ ha1 hw2
  refine wpIn_mono (F := FR (some l)) h2 ?_
  rintro ex a2 w2 ⟨e2, σ2, ha2, hw2, hq⟩
  have fin : ∀ (j : Option Code), (∃ rec2, σ2.m l = some (.raw (.loop rec2)) ∧ K (.bool j.isNone) (σ2.set l (.raw (.loop { rec2 with state := if j.isNone then .ready else .done, pending := j })))) →
      ∃ v w', (Instr.endRound l j).run P w2 = .ok v w' ∧ retP B K (.returned v) w' := by
    rintro j ⟨rec2, hm2, hK⟩
    have hl2 := hw2.raw hm2
    refine ⟨_, _, ?_, _, _, rfl, hw2.upd hm2 _, hK⟩
    simp only [Instr.endRound, Sem.run_bind, run_getLoop hl2, Result.andThen_ok, run_setObj _ hl2, Sem.run_pure]
  cases ex with
  | normal => exact fin none hq
  | ret => exact fin (some .ret) hq
  | exit id => exact fin (some (.exit id)) hq
  | _ => exact hq.elim
end
end Go.Proofs.YtdbgeahmhfocaaaGreat
