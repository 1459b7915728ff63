/- An object that lies open while a function works on it: each step leaves it open. -/
import Derived.Test.YtdbgeahmhfocaaaGreatEngL
namespace Go.Proofs.YtdbgeahmhfocaaaGreat
set_option linter.unusedSimpArgs false
set_option linter.unusedVariables false
open Go Go.RowKit

/-- 'τ' is the view 'σ' with the object at 'p' laid open, and worked on. -/
structure Opn (B : World) (σ τ : St) (p : Nat) (ty : TypeId) (root : List Value → List Value) (sp : List Sp) (vs : List Value) : Prop where
  wf : τ.wf B
  root : τ.m p = some (.raw (.cells (root vs).toArray ty (0, 0)))
  own : OwnL τ sp vs
  apart : Apart vs p
  fr : ∀ c x, c ≠ p → σ.m c = some x → τ.m c = some x ∧ OffL vs c
  n : σ.n ≤ τ.n

section
variable {P : Program} {B : World} {σ τ τ' : St} {p : Nat} {ty : TypeId} {root root' : List Value → List Value} {sp : List Sp} {vs : List Value}

theorem OwnL.get {i : Nat} {x : Sp} : ∀ {xs : List Sp} {vs : List Value} {i : Nat}, OwnL σ xs vs → xs[i]? = some x → ∃ v, vs[i]? = some v ∧ Own σ x.ty x.s x.cs x.n v
  | [], [], _, _, h => (by simp at h)
  | [], _ :: _, _, h, _ => h.elim
  | _ :: _, [], _, h, _ => h.elim
  | x :: xs, v :: vs, 0, h, hi => by simp at hi; subst hi; exact ⟨v, rfl, h.1⟩
  | x :: xs, v :: vs, i + 1, h, hi => by simpa using OwnL.get (i := i) h.2 (by simpa using hi)
theorem OwnL.set {σ' : St} {x' : Sp} {v' : Value} (hv' : Own σ' x'.ty x'.s x'.cs x'.n v') : ∀ {xs : List Sp} {vs : List Value} {i : Nat}, OwnL σ xs vs →
    (∀ j v, j ≠ i → vs[j]? = some v → ∀ b o, blk v = some b → σ.m b = some (.raw o) → σ'.m b = some (.raw o)) → OwnL σ' (xs.set i x') (vs.set i v')
  | [], [], _, _, _ => trivial
  | [], _ :: _, _, h, _ => h.elim
  | _ :: _, [], _, h, _ => h.elim
  | x :: xs, v :: vs, 0, h, hk => ⟨hv', h.2.keepR fun u hu b o hb ho => by
      obtain ⟨j, hj⟩ := List.getElem?_of_mem hu
      exact hk (j + 1) u (by omega) (by simpa using hj) b o hb ho⟩
  | x :: xs, v :: vs, i + 1, h, hk => ⟨h.1.keepR fun b o => hk 0 v (by omega) rfl b o, OwnL.set hv' (i := i) h.2 fun j u hj hu => hk (j + 1) u (by omega) (by simpa using hu)⟩
theorem DisL.mem {v : Value} : ∀ {us : List Value}, DisL v us → ∀ u ∈ us, Dis v u
  | w :: us, h, u, hu => by
    rcases List.mem_cons.1 hu with rfl | hu
    · exact h.1
    · exact DisL.mem h.2 u hu
theorem DisL.of {v : Value} : ∀ {us : List Value}, (∀ u ∈ us, Dis v u) → DisL v us
  | [], _ => trivial
  | w :: us, h => ⟨h w List.mem_cons_self, DisL.of fun u hu => h u (List.mem_cons_of_mem _ hu)⟩
theorem Dis.symm {v w : Value} (h : Dis v w) : Dis w v := fun b hb hb' => h b hb' hb
theorem Apart.off : ∀ {vs : List Value}, Apart vs p → OffL vs p
  | [], _ => trivial
  | v :: vs, h => ⟨h.1, h.2.2.off⟩
theorem Apart.dis : ∀ {vs : List Value} {i j : Nat} {v w : Value}, Apart vs p → i ≠ j → vs[i]? = some v → vs[j]? = some w → Dis v w
  | u :: vs, 0, 0, v, w, h, hij, hi, hj => absurd rfl hij
  | u :: vs, 0, j + 1, v, w, h, hij, hi, hj => by simp at hi; subst hi; exact h.2.1.mem w (List.mem_of_getElem? (by simpa using hj))
  | u :: vs, i + 1, 0, v, w, h, hij, hi, hj => by simp at hj; subst hj; exact (h.2.1.mem v (List.mem_of_getElem? (by simpa using hi))).symm
  | u :: vs, i + 1, j + 1, v, w, h, hij, hi, hj => Apart.dis (i := i) (j := j) h.2.2 (by omega) (by simpa using hi) (by simpa using hj)
theorem Apart.set {v' : Value} (ho : Off v' p) : ∀ {vs : List Value} {i : Nat}, Apart vs p → (∀ j u, j ≠ i → vs[j]? = some u → Dis v' u) → Apart (vs.set i v') p
  | [], _, _, _ => trivial
  | v :: vs, 0, h, hd => ⟨ho, .of fun u hu => by
      obtain ⟨j, hj⟩ := List.getElem?_of_mem hu
      exact hd (j + 1) u (by omega) (by simpa using hj), h.2.2⟩
  | v :: vs, i + 1, h, hd => ⟨h.1, .of fun u hu => by
      obtain ⟨j, hj⟩ := List.getElem?_of_mem hu
      by_cases hji : j = i
      · subst hji
        have hl : j < vs.length := by
          rcases Nat.lt_or_ge j vs.length with h1 | h1
          · exact h1
          · rw [List.getElem?_eq_none (by simpa using h1)] at hj; cases hj
        rw [List.getElem?_set_self hl] at hj
        cases hj
        exact (hd 0 v (by omega) rfl).symm
      · rw [List.getElem?_set_ne (Ne.symm hji)] at hj
        exact h.2.1.mem u (List.mem_of_getElem? hj), Apart.set ho (i := i) h.2.2 fun j u hj hu => hd (j + 1) u (by omega) (by simpa using hu)⟩
theorem OffL.set {v' : Value} {c : Nat} (ho : Off v' c) : ∀ {vs : List Value} {i : Nat}, OffL vs c → OffL (vs.set i v') c
  | [], _, _ => trivial
  | v :: vs, 0, h => ⟨ho, h.2⟩
  | v :: vs, i + 1, h => ⟨h.1, OffL.set ho h.2⟩
theorem OffL.get {c i : Nat} {v : Value} {vs : List Value} (h : OffL vs c) (hv : vs[i]? = some v) : blk v ≠ some c := h.mem v (List.mem_of_getElem? hv)

theorem Opn.lt (h : Opn B σ τ p ty root sp vs) {i b : Nat} {v : Value} (hv : vs[i]? = some v) (hb : blk v = some b) : b < τ.n := by
  obtain ⟨o, ho⟩ := h.own.at_ v (List.mem_of_getElem? hv) b hb
  exact (h.wf.2 b _ ho).2

/-- Other blocks are new, or the same. -/
theorem Opn.more (h : Opn B σ τ p ty root sp vs) (hwf : τ'.wf B) (hk : ∀ c x, τ.m c = some x → τ'.m c = some x) (hn : τ.n ≤ τ'.n) : Opn B σ τ' p ty root sp vs :=
  ⟨hwf, hk _ _ h.root, h.own.keepR fun v hv b o hb ho => hk _ _ ho, h.apart, fun c x hc hx => let ⟨h1, h2⟩ := h.fr c x hc hx; ⟨hk _ _ h1, h2⟩, Nat.le_trans h.n hn⟩
theorem Opn.up (h : Opn B σ τ p ty root sp vs) {k : Nat} (hk : τ.n ≤ k) : Opn B σ (τ.up k) p ty root sp vs := h.more (h.wf.up hk) (fun _ _ h => h) hk
/-- A new block. -/
theorem Opn.new (h : Opn B σ τ p ty root sp vs) (x : HP) {k : Nat} (hk : τ.n < k) : Opn B σ ((τ.set τ.n x).up k) p ty root sp vs := by
  have hwf : ((τ.set τ.n x).up k).wf B := by
    refine ⟨Nat.le_trans h.wf.1 (Nat.le_of_lt hk), fun c y hc => ?_⟩
    simp only [St.up_m] at hc
    by_cases e : c = τ.n
    · subst e; exact ⟨h.wf.1, hk⟩
    · rw [St.set_m_ne _ _ e] at hc
      have := h.wf.2 c y hc
      simp only [St.up_n]; omega
  refine h.more hwf (fun c y hc => ?_) (by simp only [St.up_n]; omega)
  have := (h.wf.2 c y hc).2
  simp only [St.up_m]
  rw [St.set_m_ne _ _ (by omega)]; exact hc
/-- A block that is none of the object's is written, and it is not one of the first view's. -/
theorem Opn.side (h : Opn B σ τ p ty root sp vs) {b : Nat} (x : HP) (hb : b ≠ p) (ho : OffL vs b) (hs : σ.m b = none) (hin : B.heap.size ≤ b ∧ b < τ.n) : Opn B σ (τ.set b x) p ty root sp vs := by
  have hk : ∀ c, c ≠ b → (τ.set b x).m c = τ.m c := fun c hc => St.set_m_ne _ _ hc
  refine ⟨h.wf.set x hin, (hk p (Ne.symm hb)).trans h.root, h.own.keepR fun v hv c o hc hm => ?_, h.apart, fun c y hc hy => ?_, h.n⟩
  · rw [hk c fun e => ho.mem v hv (e ▸ hc)]; exact hm
  · obtain ⟨h1, h2⟩ := h.fr c y hc hy
    rw [hk c fun e => by subst e; rw [hs] at hy; cases hy]
    exact ⟨h1, h2⟩
/-- The root is written; the slices stay. -/
theorem Opn.rt (h : Opn B σ τ p ty root sp vs) (root' : List Value → List Value) : Opn B σ (τ.set p (.raw (.cells (root' vs).toArray ty (0, 0)))) p ty root' sp vs := by
  have hp := h.wf.2 p _ h.root
  refine ⟨h.wf.set _ hp, by simp, h.own.keepR fun v hv c o hc hm => ?_, h.apart, fun c y hc hy => ?_, h.n⟩
  · rw [St.set_m_ne _ _ fun e => by rw [e] at hc; exact h.apart.off.mem v hv hc]; exact hm
  · rw [St.set_m_ne _ _ hc]; exact h.fr c y hc hy
/-- One of the slices is another one now: of new memory, or of its own block. -/
theorem Opn.sl (h : Opn B σ τ p ty root sp vs) {i : Nat} {x x' : Sp} {v v' : Value} (hx : sp[i]? = some x) (hv : vs[i]? = some v) (hown : Own τ' x'.ty x'.s x'.cs x'.n v') (hb : ∀ b, blk v' = some b → (τ.n ≤ b ∧ b < τ'.n) ∨ blk v = some b)
    (hk : ∀ c x, blk v' ≠ some c → blk v ≠ some c → τ.m c = some x → τ'.m c = some x) (hn : τ.n ≤ τ'.n) (hnew : ∀ c x, τ'.m c = some x → τ.m c = some x ∨ (τ.n ≤ c ∧ c < τ'.n) ∨ blk v = some c) :
    (∀ y, (τ'.set p y).wf B) ∧ τ'.m p = some (.raw (.cells (root vs).toArray ty (0, 0))) ∧ ∀ root' : List Value → List Value, Opn B σ (τ'.set p (.raw (.cells (root' (vs.set i v')).toArray ty (0, 0)))) p ty root' (sp.set i x') (vs.set i v') := by
  have hp := h.wf.2 p _ h.root
  have hwf : τ'.wf B := ⟨Nat.le_trans h.wf.1 hn, fun c y hc => by
    have := h.wf.1
    rcases hnew c y hc with h1 | h1 | h1
    · have := h.wf.2 c y h1; omega
    · omega
    · have h2 := h.lt hv h1
      obtain ⟨o, ho⟩ := h.own.at_ v (List.mem_of_getElem? hv) c h1
      have := (h.wf.2 c _ ho).1
      omega⟩
  have hvp : blk v ≠ some p := h.apart.off.get hv
  have hv'p : blk v' ≠ some p := fun e => by
    rcases hb p e with h1 | h1
    · omega
    · exact hvp h1
  have hpp := hk p _ hv'p hvp h.root
  have hdis : ∀ j u, j ≠ i → vs[j]? = some u → Dis v' u := fun j u hj hu b hbv hbu => by
    rcases hb b hbv with h1 | h1
    · have := h.lt hu hbu; omega
    · exact h.apart.dis (Ne.symm hj) hv hu b h1 hbu
  refine ⟨fun y => hwf.set _ ⟨hp.1, by omega⟩, hpp, fun root' => ⟨hwf.set _ ⟨hp.1, by omega⟩, by simp, ?_, h.apart.set hv'p hdis, fun c y hc hy => ?_, Nat.le_trans h.n hn⟩⟩
  · refine OwnL.set (hown.keepR fun b o hbv ho => ?_) h.own fun j u hj hu b o hbu ho => ?_
    · rw [St.set_m_ne _ _ fun e => by rw [e] at hbv; exact hv'p hbv]; exact ho
    · rw [St.set_m_ne _ _ fun e => by rw [e] at hbu; exact h.apart.off.get hu hbu]
      exact hk b _ (fun e => hdis j u hj hu b e hbu) (fun e => h.apart.dis (Ne.symm hj) hv hu b e hbu) ho
  · obtain ⟨h1, h2⟩ := h.fr c y hc hy
    have hcn := (h.wf.2 c _ h1).2
    have hc1 : blk v ≠ some c := h2.get hv
    have hc2 : blk v' ≠ some c := fun e => by
      rcases hb c e with h3 | h3
      · omega
      · exact hc1 h3
    exact ⟨by rw [St.set_m_ne _ _ hc]; exact hk c _ hc2 hc1 h1, h2.set hc2⟩
/-- Cells of a slice's own block are written. -/
theorem Opn.wr (h : Opn B σ τ p ty root sp vs) {i b n c : Nat} {x : Sp} {cs' spare : List Value} (hx : sp[i]? = some x) (hv : vs[i]? = some (.slice (some ⟨b, 0, none⟩) n c)) (hm : τ.m b = some (.raw (.cells (x.cs ++ spare).toArray x.ty (0, 0)))) (hl : cs'.length = x.cs.length) :
    Opn B σ (τ.set b (.raw (.cells (cs' ++ spare).toArray x.ty (0, 0)))) p ty root (sp.set i { x with cs := cs' }) vs := by
  have hbp : b ≠ p := fun e => h.apart.off.get hv (by rw [e]; rfl)
  have hbn := h.wf.2 b _ hm
  have hvs : vs.set i (.slice (some ⟨b, 0, none⟩) n c) = vs := by
    apply List.ext_getElem?
    intro j
    by_cases hji : j = i
    · subst hji
      rw [List.getElem?_set_self (List.getElem?_eq_some_iff.1 hv).1, hv]
    · rw [List.getElem?_set_ne (Ne.symm hji)]
  obtain ⟨v, hv2, hown⟩ := h.own.get (i := i) hx
  obtain rfl : _ = v := Option.some.inj (hv.symm.trans hv2)
  refine ⟨h.wf.set _ hbn, by rw [St.set_m_ne _ _ (Ne.symm hbp)]; exact h.root, ?_, h.apart, fun d y hd hy => ?_, h.n⟩
  · have : OwnL (τ.set b (.raw (.cells (cs' ++ spare).toArray x.ty (0, 0)))) (sp.set i { x with cs := cs' }) (vs.set i (.slice (some ⟨b, 0, none⟩) n c)) := by
      refine OwnL.set (x' := { x with cs := cs' }) ?_ h.own fun j u hj hu d o hbu ho => ?_
      · obtain ⟨h1, h2 | ⟨b', cap, sp', h2, h3, h4, h5⟩⟩ := hown
        · cases h2.1
        · cases h2
          rw [hm] at h4
          simp only [Option.some.injEq, HP.raw.injEq, Obj.cells.injEq, and_true] at h4
          have hsp : spare = sp' := by simpa using h4
          subst hsp
          exact ⟨by simp only [hl, h1], .inr ⟨_, _, spare, rfl, h3, by simp, by simp only [List.length_append] at h5 ⊢; omega⟩⟩
      · rw [St.set_m_ne _ _ fun e => h.apart.dis (Ne.symm hj) hv hu b rfl (by rw [← e]; exact hbu)]; exact ho
    rwa [hvs] at this
  · obtain ⟨h1, h2⟩ := h.fr d y hd hy
    exact ⟨by rw [St.set_m_ne _ _ fun e => h2.get hv (by rw [e]; rfl)]; exact h1, h2⟩
/-- A slice of the object is cut, or replaced within its block: the root is written. -/
theorem Opn.tr (h : Opn B σ τ p ty root sp vs) {i : Nat} {x x' : Sp} {v v' : Value} (hx : sp[i]? = some x) (hv : vs[i]? = some v) (hown : Own τ x'.ty x'.s x'.cs x'.n v') (hb : ∀ b, blk v' = some b → blk v = some b) (root' : List Value → List Value) :
    Opn B σ (τ.set p (.raw (.cells (root' (vs.set i v')).toArray ty (0, 0)))) p ty root' (sp.set i x') (vs.set i v') :=
  (h.sl hx hv hown (fun b hb' => .inr (hb b hb')) (fun _ _ _ _ h => h) (Nat.le_refl _) (fun c x hc => .inl hc)).2.2 root'

theorem Opn.cast {sp' : List Sp} (h : Opn B σ τ p ty root sp vs) (e : sp = sp') : Opn B σ τ p ty root sp' vs := e ▸ h
theorem Opn.at_ (h : Opn B σ τ p ty root sp vs) {τ' : St} (e : τ = τ') : Opn B σ τ' p ty root sp vs := e ▸ h
/-- The object is closed. -/
theorem Opn.close (h : Opn B σ τ p ty root sp vs) {K : Value → St → Prop} {r : Value} (hK : ∀ k, σ.n ≤ k → K r ((σ.set p (.comp (Obj ty root sp p))).up k)) : ∃ σ'', To B τ σ'' ∧ K r σ'' :=
  ⟨_, To.closeO vs h.root h.own h.apart h.fr, hK _ h.n⟩
/-- The object is closed, as it was. -/
theorem Opn.close' (h : Opn B σ τ p ty root sp vs) (hm : σ.m p = some (.comp (Obj ty root sp p))) {K : Value → St → Prop} {r : Value} (hK : ∀ k, σ.n ≤ k → K r (σ.up k)) : ∃ σ'', To B τ σ'' ∧ K r σ'' :=
  h.close fun k hk => by rw [St.set_same hm]; exact hK k hk

theorem Fn.opn {K : Value → St → Prop} {f n : Nat} {c : Code} {rs : Array ResultVar} {args : Array Value} (hm : σ.m p = some (.comp (Obj ty root sp p))) (hf : FnIs P f n c rs) (hsz : args.size ≤ n)
    (h : ∀ (vs : List Value) (τ : St), τ.n = σ.n → Opn B σ τ p ty root sp vs → wpS P B none n c (retQ P B rs fun v σ' => ∃ σ'', To B σ' σ'' ∧ K v σ'') (fr0 args) τ) : Fn P B f args σ K :=
  Fn.openO hm hf.en fun vs τ hwf hn hr ho ha hk => Fn.of'' hf hsz hwf (h vs τ hn ⟨hwf, hr, ho, ha, hk, by omega⟩)
theorem Fn.opnS {K : Value → St → Prop} {f n : Nat} {c : Code} {rs : Array ResultVar} {args : Array Value} (hm : σ.m p = some (.comp (Obj ty root sp p))) (hf : FnIs P f n c rs) (hsz : args.size ≤ n)
    (h : ∀ (vs : List Value) (τ : St), τ.n = σ.n → Opn B σ τ p ty root sp vs → SemS P B none n c (retQ P B rs fun v σ' => ∃ σ'', To B σ' σ'' ∧ K v σ'') (fr0 args) τ) : Fn P B f args σ K :=
  Fn.openO hm hf.en fun vs τ hwf hn hr ho ha hk => Fn.ofS hf hsz fun _ => h vs τ hn ⟨hwf, hr, ho, ha, hk, by omega⟩

/-- 'append' of one element to the i-th slice of an object that lies open. -/
theorem appO_one {d : Option Tmp} {K : Fr → St → Prop} {e : Fr} (h : Opn B σ τ p ty root sp vs) (i : Nat) {t xt el : TypeId} {s bts n b c : Nat} {z sv : Value} {cs ys : List Value} (hx : sp[i]? = some ⟨el, s, cs, n⟩) (hv : vs[i]? = some sv)
    (ht : se P t = some (el, s, bts)) (hxt : kd P xt = .slice) (hz : zr P el = some z) (hzs : z.cells.size = s) (hb0 : bts ≠ 0)
    {ty' : TypeId} {fz : Nat × Nat} (hm : τ.m b = some (.raw (.cells ys.toArray ty' fz))) (hyl : ys.length = s) (hy1 : ys.all Value.oneCell' = true) (hroom : (2 * (n + 1) + 768) * bts ≤ 2 ^ 48)
    (hK : ∀ A C σ', n + 1 ≤ C → σ'.m p = some (.raw (.cells (root vs).toArray ty (0, 0))) → (∀ root' : List Value → List Value, Opn B σ (σ'.set p (.raw (.cells (root' (vs.set i (.slice A (n + 1) C))).toArray ty (0, 0)))) p ty root' (sp.set i ⟨el, s, cs ++ ys, n + 1⟩) (vs.set i (.slice A (n + 1) C))) →
      (∀ c x, τ.m c = some x → OffL vs c → σ'.m c = some x) → τ.n ≤ σ'.n → K (e.put d (.slice A (n + 1) C)) σ') :
    appK P B t xt sv (.slice (some ⟨b, 0, none⟩) 1 c) d K e τ := by
  obtain ⟨v, hv2, hown⟩ := h.own.get (i := i) hx
  obtain rfl : _ = v := Option.some.inj (hv.symm.trans hv2)
  refine appK_one2 ht hxt hz hzs hb0 hown hm hyl hy1 hroom fun v' σ' h1 h2 h3 h4 => ?_
  have hne : ∀ c x, blk v' ≠ some c → blk sv ≠ some c → τ.m c = some x → σ'.m c = some x := fun c x hc _ hx => by rw [h3 c hc]; exact hx
  obtain ⟨q1, q2, q3⟩ := h.sl (τ' := σ') (x' := ⟨el, s, cs ++ ys, n + 1⟩) hx hv h1 (fun b hb => (h2 b hb).imp (fun ⟨e1, e2⟩ => ⟨by omega, by omega⟩) id) hne h4 (fun c x hc => by
    by_cases e : blk v' = some c
    · rcases h2 c e with ⟨e1, e2⟩ | e1
      · exact .inr (.inl ⟨by omega, by omega⟩)
      · exact .inr (.inr e1)
    · rw [h3 c e] at hc; exact .inl hc)
  obtain ⟨A, C, rfl, hC⟩ := h1.is
  refine hK A C σ' hC q2 q3 (fun c x hc ho => ?_) h4
  refine hne c x (fun e => ?_) (ho.get hv) hc
  rcases h2 c e with ⟨e1, _⟩ | e1
  · have := (h.wf.2 c _ hc).2; omega
  · exact ho.get hv e1

/-- 'append([]T{}, x...)', put in the place of the i-th slice. -/
theorem appO_new {d : Option Tmp} {K : Fr → St → Prop} {e : Fr} (h : Opn B σ τ p ty root sp vs) (i : Nat) {t xt el : TypeId} {s bts n m : Nat} {z sv xv : Value} {cs ys : List Value} (hx : sp[i]? = some ⟨el, s, cs, n⟩) (hv : vs[i]? = some sv)
    (ht : se P t = some (el, s, bts)) (hxt : kd P xt = .slice) (hz : zr P el = some z) (hzs : z.cells.size = s) (hb0 : bts ≠ 0)
    (hfc : fc B ((τ.set τ.n (.raw (.cells #[] el (0, 0)))).up (τ.n + 1)) s xv = some (m, ys)) (hyl : ys.length = m * s) (hy1 : ys.all Value.oneCell' = true) (hroom : (2 * m + 768) * bts ≤ 2 ^ 48)
    (hK : ∀ A C σ', m ≤ C → σ'.m p = some (.raw (.cells (root vs).toArray ty (0, 0))) → (∀ root' : List Value → List Value, Opn B σ (σ'.set p (.raw (.cells (root' (vs.set i (.slice A m C))).toArray ty (0, 0)))) p ty root' (sp.set i ⟨el, s, ys, m⟩) (vs.set i (.slice A m C))) →
      (∀ c x, τ.m c = some x → OffL vs c → σ'.m c = some x) → τ.n ≤ σ'.n → K (e.put d (.slice A m C)) σ') :
    appK P B t xt (.slice (some ⟨τ.n, 0, none⟩) 0 0) xv d K e ((τ.set τ.n (.raw (.cells #[] el (0, 0)))).up (τ.n + 1)) := by
  have hown0 : Own ((τ.set τ.n (.raw (.cells #[] el (0, 0)))).up (τ.n + 1)) el s [] 0 (.slice (some ⟨τ.n, 0, none⟩) 0 0) := Own.of' (sp := []) (by simp) (by simp) (Nat.le_refl _) (by simp)
  refine app_own2 ht (.inr hxt) hz hzs hb0 hown0 hfc hyl hy1 (by simpa using hroom) fun v' σ' h1 h2 h3 h4 => ?_
  simp only [List.nil_append, Nat.zero_add] at h1
  simp only [St.up_n] at h4
  have hle : τ.n ≤ σ'.n := by omega
  have hb : ∀ b, blk v' = some b → τ.n ≤ b ∧ b < σ'.n := fun b hb => by
    rcases h2 b hb with ⟨e1, e2⟩ | e1
    · simp only [St.up_n] at e1 e2; omega
    · simp only [blk, Option.some.injEq] at e1; omega
  have hkeep : ∀ c x, τ.m c = some x → σ'.m c = some x := fun c x hc => by
    have hcn := (h.wf.2 c _ hc).2
    rw [h3 c fun e => by have := hb c e; omega]
    simp only [St.up_m]
    rw [St.set_m_ne _ _ (by omega)]; exact hc
  obtain ⟨q1, q2, q3⟩ := h.sl (τ' := σ') (x' := ⟨el, s, ys, m⟩) hx hv h1 (fun b hb' => .inl (hb b hb')) (fun c x _ _ hc => hkeep c x hc) hle (fun c x hc => by
    by_cases e : blk v' = some c
    · exact .inr (.inl (hb c e))
    · rw [h3 c e] at hc
      simp only [St.up_m] at hc
      by_cases e2 : c = τ.n
      · exact .inr (.inl (by omega))
      · rw [St.set_m_ne _ _ e2] at hc; exact .inl hc)
  obtain ⟨A, C, rfl, hC⟩ := h1.is
  exact hK A C σ' hC q2 q3 (fun c x hc _ => hkeep c x hc) hle

/-- What is left of a slice behind its first elements. -/
theorem own_drop {ty : TypeId} {s n c i : Nat} {cs : List Value} {a : Option Addr} (h : Own σ ty s cs n (.slice a n c)) (hi : i ≤ n) : fc B σ s (.slice (slA a c i s) (n - i) (c - i)) = some (n - i, cs.drop (i * s)) := by
  obtain ⟨h1, ⟨h2, h3⟩ | ⟨b, cap, sp, h2, h3, h4, h5⟩⟩ := h
  · cases h2
    have : i = 0 := by omega
    subst this
    have : cs = [] := by simpa using h1
    subst this
    simp [slA, fc]
  · cases h2
    have hl : (cs.drop (i * s)).length = (n - i) * s := by rw [List.length_drop, h1, Nat.sub_mul]
    by_cases hc : c = i
    · have hn : n - i = 0 := by omega
      have hd : cs.drop (i * s) = [] := by rw [← List.length_eq_zero_iff, hl, hn]; simp
      rw [hd, hn, slA, if_pos hc]
      simp [fc, rds]
    · rw [slA_mk hc]
      have := rds_cells (B := B) (o := 0 + i * s) h4 (cs.drop (i * s)) 0 (fun j v hj => by
        have hjl := (List.getElem?_eq_some_iff.1 hj).1
        rw [List.getElem?_drop] at hj
        simp only [Nat.zero_add, Nat.add_zero, List.getElem?_toArray]
        rw [List.getElem?_append_left (by simp at hjl; omega)]; exact hj)
      simp only [fc, ← hl, this, Option.map_some]
theorem own_take {ty : TypeId} {s n c k : Nat} {cs : List Value} {a : Option Addr} (h : Own σ ty s cs n (.slice a n c)) (hk : k ≤ n) : fc B σ s (.slice a k c) = some (k, cs.take (k * s)) := (h.trunc hk).fc
end
end Go.Proofs.YtdbgeahmhfocaaaGreat
