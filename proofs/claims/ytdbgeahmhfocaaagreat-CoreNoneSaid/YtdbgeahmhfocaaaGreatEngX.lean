/- Pieces of code, said by the machine: where a view may be changed for another one, and objects are opened and closed between them. -/
import Derived.Test.YtdbgeahmhfocaaaGreatEngM
namespace Go.Proofs.YtdbgeahmhfocaaaGreat
set_option linter.unusedSimpArgs false
set_option linter.unusedVariables false
open Go Go.RowKit

section
variable (P : Program) (B : World)
def SemS (r : Option Nat) (n : Nat) (c : Code) (Q : Exit → Fr → St → Prop) (e : Fr) (σ : St) : Prop :=
  P.follows .mixedOrders = true → codeOk r.isSome n c = true → CodeR P B r n c Q e σ
end

/-- The facts of an object that lies open. -/
structure OpenO (τ : St) (p : Nat) (ty : TypeId) (root : List Value → List Value) (sp : List Sp) (vs : List Value) : Prop where
  root : τ.m p = some (.raw (.cells (root vs).toArray ty (0, 0)))
  own : OwnL τ sp vs
  apart : Apart vs p

section
variable {P : Program} {B : World} {r : Option Nat} {n : Nat} {c x y : Code} {Q Q' : Exit → Fr → St → Prop} {e : Fr} {σ τ : St}

theorem SemS.wp (h : σ.wf B → wpS P B r n c Q e σ) : SemS P B r n c Q e σ := fun hmix hok a w ha hw => wpS_sound hmix c Q e σ hok (h hw.wf) a w ha hw
theorem SemS.from (t : To B σ τ) (h : SemS P B r n c Q e τ) : SemS P B r n c Q e σ := fun hmix hok a w ha hw => h hmix hok a w ha (t w hw)
theorem SemS.mono (h : SemS P B r n c Q e σ) (hq : ∀ x e σ, Q x e σ → Q' x e σ) : SemS P B r n c Q' e σ := fun hmix hok => (h hmix hok).mono hq
theorem SemS.toQ (h : SemS P B r n c (fun x e σ => ∃ σ'', To B σ σ'' ∧ Q x e σ'') e σ) : SemS P B r n c Q e σ := fun hmix hok a w ha hw =>
  wpIn_mono (h hmix hok a w ha hw) fun _ _ w' ⟨e', σ', h1, h2, σ'', t, h3⟩ => ⟨e', σ'', h1, t w' h2, h3⟩
theorem SemS.seq (J : Fr → St → Prop) (h : SemS P B r n x (thenQ (fun e σ => ∃ σ'', To B σ σ'' ∧ J e σ'') Q) e σ) (hJ : ∀ e σ, σ.wf B → J e σ → SemS P B r n y Q e σ) : SemS P B r n (.seq x y) Q e σ := by
  intro hmix hok a w ha hw
  simp only [codeOk, Bool.and_eq_true] at hok
  refine wpIn_seq (wpIn_mono (h hmix hok.1 a w ha hw) ?_)
  rintro ex a' w' ⟨e', σ', ha', hw', hq⟩
  cases ex with
  | normal =>
    obtain ⟨σ'', t, hj⟩ := hq
    exact hJ e' σ'' (t w' hw').wf hj hmix hok.2 a' w' ha' (t w' hw')
  | _ => exact ⟨e', σ', ha', hw', hq⟩
theorem SemS.seqs (h : SemS P B r n x (thenQ (fun e σ => SemS P B r n y Q e σ) Q) e σ) : SemS P B r n (.seq x y) Q e σ :=
  SemS.seq (fun e σ => SemS P B r n y Q e σ) (h.mono fun z e σ hz => by cases z <;> first | exact ⟨σ, To.refl _ _, hz⟩ | exact hz) fun e σ _ h => h
theorem SemS.seqw (h : σ.wf B → wpS P B r n x (thenQ (fun e σ => SemS P B r n y Q e σ) Q) e σ) : SemS P B r n (.seq x y) Q e σ := SemS.seqs (SemS.wp h)
theorem SemS.cond {o : Operand} {b : Bool} (hb : ev e o = .bool b) (hx : b = true → SemS P B r n x Q e σ) (hy : b = false → SemS P B r n y Q e σ) : SemS P B r n (.cond o x y) Q e σ := by
  intro hmix hok a w ha hw
  simp only [codeOk, Bool.and_eq_true] at hok
  have hb' : a.eval o = .bool b := by rw [ha.eval]; exact hb
  cases b with
  | true => exact wpIn_cond_true hb' (hx rfl hmix hok.1 a w ha hw)
  | false => exact wpIn_cond_false hb' (hy rfl hmix hok.2 a w ha hw)
theorem SemS.block {id : Nat} (h : SemS P B r n c (blockQ id Q) e σ) : SemS P B r n (.block id c) Q e σ := by
  intro hmix hok a w ha hw
  refine wpIn_block (wpIn_mono (h hmix hok a w ha hw) ?_)
  rintro ex a' w' ⟨e', σ', ha', hw', hq⟩
  cases ex with
  | exit j =>
    simp only [blockQ] at hq
    simp only [Exit.inBlock]
    split <;> rename_i hj
    · rw [if_pos hj] at hq; exact ⟨e', σ', ha', hw', hq⟩
    · rw [if_neg hj] at hq; exact ⟨e', σ', ha', hw', hq⟩
  | _ => exact ⟨e', σ', ha', hw', hq⟩
/-- A loop; at a round's end the view may be changed for another one. -/
theorem SemS.loop (I : Nat → Fr → St → Prop) (m : Nat) (h0 : I m e σ)
    (hr : ∀ m e σ, σ.wf B → I m e σ → SemS P B r n c (thenQ (fun e' σ' => ∃ m', m' < m ∧ ∃ σ'', To B σ' σ'' ∧ I m' e' σ'') Q) e σ) : SemS P B r n (.loop c) Q e σ := by
  intro hmix hok a w ha hw
  refine wpIn_loop (F := FR r) (n := 0) (fun a w => ∃ m e σ, Is a n e ∧ Rel B w σ ∧ I m e σ) (fun a w => leastOf fun m => ∃ e σ, Is a n e ∧ Rel B w σ ∧ I m e σ) ⟨m, e, σ, ha, hw, h0⟩ ?_
  intro a w hex
  obtain ⟨⟨e, σ, ha, hw, hI⟩, _⟩ := leastOf_spec (p := fun m => ∃ e σ, Is a n e ∧ Rel B w σ ∧ I m e σ) hex
  have hb := hr _ e σ hw.wf hI hmix hok a w ha hw
  refine wpIn_mono hb ?_
  rintro ex a' w' ⟨e', σ', ha', hw', hq⟩
  cases ex with
  | normal =>
    obtain ⟨m', hlt, σ'', t, hI'⟩ := hq
    have hw'' := t w' hw'
    refine ⟨⟨m', e', σ'', ha', hw'', hI'⟩, Nat.lt_of_le_of_lt ?_ hlt⟩
    exact (leastOf_spec (p := fun m => ∃ e σ, Is a' n e ∧ Rel B w' σ ∧ I m e σ) ⟨m', e', σ'', ha', hw'', hI'⟩).2 m' ⟨e', σ'', ha', hw'', hI'⟩
  | _ => exact ⟨e', σ', ha', hw', hq⟩
theorem LoopS.of (h : SemS P B r n (.loop c) Q e σ) : LoopS P B r n c Q e σ := h

theorem OpenO.keepR {p : Nat} {ty : TypeId} {root : List Value → List Value} {sp : List Sp} {vs : List Value} (h : OpenO σ p ty root sp vs) (hp : σ.m p = τ.m p) (hk : ∀ v ∈ vs, ∀ b, blk v = some b → τ.m b = σ.m b) : OpenO τ p ty root sp vs :=
  ⟨hp ▸ h.root, h.own.keepR fun v hv b o hb hm => by rw [hk v hv b hb]; exact hm, h.apart⟩

theorem Rel.openO {w : World} (hw : Rel B w σ) {p : Nat} {ty : TypeId} {root : List Value → List Value} {sp : List Sp} (hm : σ.m p = some (.comp (Obj ty root sp p))) :
    ∃ vs τ, Rel B w τ ∧ τ.n = σ.n ∧ OpenO τ p ty root sp vs ∧ (∀ c x, c ≠ p → σ.m c = some x → τ.m c = some x ∧ OffL vs c) := by
  obtain ⟨g, hR, hd, hr⟩ := hw.opens hm
  have hg : ∀ c o, g c = some o → (σ.over p g).m c = some (.raw o) := fun c o hc => by simp [St.over, hc]
  have hk : ∀ c x, c ≠ p → σ.m c = some x → (σ.over p g).m c = some x := fun c x hcp hc => by
    have hgc : g c = none := by
      cases hg : g c with
      | none => rfl
      | some o => rcases hd c o hg with h1 | h1
                  · exact absurd h1 hcp
                  · rw [hc] at h1; cases h1
    simp [St.over, hgc, hcp, hc]
  obtain ⟨vs, h1, h2, h3⟩ := hR
  have hx : ∀ b o, (hs g).m b = some (.raw o) → (σ.over p g).m b = some (.raw o) := fun b o hb => by
    simp only [hs, Option.map_eq_some_iff] at hb
    obtain ⟨o', ho', e⟩ := hb
    cases e; exact hg b o ho'
  refine ⟨vs, _, hr, rfl, ⟨hg p _ h1, h2.keepR fun v _ b o _ hb => hx b o hb, h3⟩, fun c x hc hcx => ⟨hk c x hc hcx, .of fun v hv hb => ?_⟩⟩
  obtain ⟨o, ho⟩ := h2.at_ v hv c hb
  simp only [hs, Option.map_eq_some_iff] at ho
  obtain ⟨o', ho', _⟩ := ho
  rcases hd c o' ho' with h4 | h4
  · exact hc h4
  · rw [hcx] at h4; cases h4
/-- An object is opened here. -/
theorem SemS.openO {p : Nat} {ty : TypeId} {root : List Value → List Value} {sp : List Sp} (hm : σ.m p = some (.comp (Obj ty root sp p)))
    (h : ∀ vs τ, τ.wf B → τ.n = σ.n → OpenO τ p ty root sp vs → (∀ c x, c ≠ p → σ.m c = some x → τ.m c = some x ∧ OffL vs c) → SemS P B r n c Q e τ) : SemS P B r n c Q e σ := by
  intro hmix hok a w ha hw
  obtain ⟨vs, τ, h1, h2, h3, h4⟩ := hw.openO hm
  exact h vs τ h1.wf h2 h3 h4 hmix hok a w ha h1
theorem To.shut {p : Nat} {ty : TypeId} {root : List Value → List Value} {sp : List Sp} {vs : List Value} (h : OpenO τ p ty root sp vs)
    (hrest : ∀ c x, c ≠ p → σ.m c = some x → τ.m c = some x ∧ OffL vs c) : To B τ ((σ.set p (.comp (Obj ty root sp p))).up τ.n) := To.closeO vs h.root h.own h.apart hrest

/-- A function's contract, from its body, said by the machine. -/
theorem Fn.ofS {f : FuncId} {n : Nat} {c : Code} {rs : Array ResultVar} (hf : FnIs P f n c rs) {args : Array Value} (hsz : args.size ≤ n) {σ : St} {K : Value → St → Prop}
    (h : σ.wf B → SemS P B none n c (retQ P B rs fun v σ' => ∃ σ'', To B σ' σ'' ∧ K v σ'') (fr0 args) σ) : Fn P B f args σ K := by
  refine ⟨hf.en, fun w hw => ?_⟩
  obtain ⟨fn, h1, h2, h3, h4, h5⟩ := hf.is
  refine (callsIn_wide (n := 0)).1 (callsIn_of_wp_marks h1 h2 trivial ?_)
  rw [h3]
  have hs := h hw.wf hf.mix hf.ok _ w (is0 hsz) hw
  refine wpIn_mono hs ?_
  rintro ex a' w' ⟨e', σ', ha', hw', hq⟩
  have fin : Leave P B e'.d σ' (fun σ' => bindK (resL P B σ' e' rs.toList) fun vs => ∃ σ'', To B σ' σ'' ∧ K (tup vs) σ'') → LeavesInM Fence.wide 0 P fn a'.tmps (retP B K) a'.defers .returning w' := by
    intro hl
    rw [ha'.d]
    refine leave_sound fn (K := fun σ' => bindK (resL P B σ' e' rs.toList) fun vs => ∃ σ'', To B σ' σ'' ∧ K (tup vs) σ'') (fun σ2 w2 hw2 hk => ?_) e'.d σ' w' hw' hl
    obtain ⟨vs, hvs, σ'', t, hK⟩ := hk
    rw [← h4] at hvs
    exact ⟨_, run_results fn ha' hw2 hvs, _, σ'', rfl, t w2 hw2, hK⟩
  cases ex with
  | normal => exact fin hq
  | ret => exact fin hq
  | _ => exact hq.elim

/-- Behind a call an object is opened. -/
theorem Fn.kopen {f : FuncId} {args : Array Value} {K : Value → St → Prop} {p : Nat} {ty : TypeId} {root : List Value → List Value}
    (h : Fn P B f args σ fun v σ' => ∃ sp, σ'.m p = some (.comp (Obj ty root sp p)) ∧ ∀ vs τ, τ.wf B → τ.n = σ'.n → OpenO τ p ty root sp vs → (∀ c x, c ≠ p → σ'.m c = some x → τ.m c = some x ∧ OffL vs c) → K v τ) : Fn P B f args σ K :=
  ⟨h.1, fun w hw => (h.2 w hw).mono fun _ w' ⟨v, σ', e, hr, sp, hm, hk⟩ => let ⟨vs, τ, h1, h2, h3, h4⟩ := hr.openO hm; ⟨v, τ, e, h1, hk vs τ h1.wf h2 h3 h4⟩⟩
theorem Fn.toK {f : FuncId} {args : Array Value} {K : Value → St → Prop} (h : Fn P B f args σ fun v σ' => ∃ σ'', To B σ' σ'' ∧ K v σ'') : Fn P B f args σ K := h.conseq fun _ _ h => h

theorem St.set_same {p : Nat} {x : HP} (h : σ.m p = some x) : σ.set p x = σ := by
  simp only [St.set]
  congr 1
  funext c
  split
  · rename_i e; rw [e, h]
  · rfl
end
end Go.Proofs.YtdbgeahmhfocaaaGreat
