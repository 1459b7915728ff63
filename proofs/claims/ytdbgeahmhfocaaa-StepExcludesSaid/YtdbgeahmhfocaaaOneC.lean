/- 'StepOne': contracts of its functions. -/
import Derived.Test.YtdbgeahmhfocaaaOneP
import Derived.Test.YtdbgeahmhfocaaaAwkW
namespace Go.Proofs.Ytdbgeahmhfocaaa
set_option linter.unusedSimpArgs false
set_option linter.unusedVariables false
set_option maxRecDepth 100000
open Go Go.RowKit
section
variable {P : Program} {B : World} {σ τ : St}
theorem fill_ones {z : Value} (hz : z.cells = #[z]) (n : Nat) : ∀ (vs : List Value) (i : Nat) (c : Array Value), (∀ v ∈ vs, v.cells = #[v]) → i + vs.length ≤ c.size →
    Instr.fill (fun i => some (i * 1, 1)) c (vs.zipIdx i |>.map fun p => (p.2, p.1)) = some (wrl c i vs)
  | [], i, c, _, _ => rfl
  | v :: vs, i, c, hv, hl => by
    have h1 := hv v (by simp)
    simp only [List.length_cons] at hl
    simp only [List.zipIdx_cons, List.map_cons]
    show fl _ _ _ = _
    rw [fill_cons, fillK_some]
    have hvc : vc v = #[v] := h1
    rw [if_neg (by rw [hvc]; simp; omega), hvc]
    simp only [Nat.mul_one]
    have := fill_ones hz n vs (i + 1) (c.setIfInBounds i v) (fun u hu => hv u (by simp [hu])) (by simp; omega)
    simp only [Nat.mul_one] at this
    exact this
/-- A literal slice of values of one cell each. -/
theorem bslK_ones {t el : TypeId} {b n : Nat} {z : Value} {vs : List Value} {parts : List (Nat × Value)} {d : Option Tmp} {K : Fr → St → Prop} {e : Fr} (hse : se P t = some (el, 1, b)) (hz : zr P el = some z) (hz1 : z.cells = #[z]) (hv : ∀ v ∈ vs, v.cells = #[v]) (hn : vs.length = n) (hp : parts = (vs.zipIdx 0 |>.map fun p => (p.2, p.1))) (h24 : n ≤ 1000)
    (h : K (e.put d (.slice (some ⟨σ.n, 0, none⟩) n n)) ((σ.set σ.n (.raw (.cells vs.toArray el (0, 0)))).up (σ.n + 1))) : bslK P t n parts d K e σ := by
  unfold bslK bsl bindK
  have hsz : (zcells z.cells (n * 1)).size = n := by simp [zcells]
  refine ⟨_, hse, z, hz, by omega, vs.toArray, ?_, h⟩
  rw [hp, fill_ones hz1 n vs 0 _ hv (by omega), wrl_all _ _ (by omega)]
end
section
variable {B : World} {K : Value → St → Prop}
structure OnD (bgot bset cb b : Nat) : Prop where
  d1 : bgot ≠ bset
  d2 : bgot ≠ cb
  d3 : bgot ≠ b
  d4 : bset ≠ cb
  d5 : bset ≠ b
  d6 : cb ≠ b
def onH (bgot bset cb b : Nat) (I : HF) (u : O1) : HF := fun c =>
  if c = bgot then some (.raw (.cells #[.int .i64 u.got] 3 (0, 0))) else if c = bset then some (.raw (.cells #[.bool u.st] 4 (0, 0)))
  else if c = cb then some (.raw (.cells #[.int .i64 u.c.1, .int .i64 u.c.2] 52 (0, 0))) else if c = b then some (.raw (.cells (flat fLk (lksA 8 u.l)).toArray 54 (0, 0))) else I c
variable {bgot bset cb b : Nat} {I : HF}
theorem on_got {u : O1} : onH bgot bset cb b I u bgot = some (.raw (.cells #[.int .i64 u.got] 3 (0, 0))) := by unfold onH; rw [if_pos rfl]
theorem on_set (hd : OnD bgot bset cb b) {u : O1} : onH bgot bset cb b I u bset = some (.raw (.cells #[.bool u.st] 4 (0, 0))) := by unfold onH; rw [if_neg (Ne.symm hd.d1), if_pos rfl]
theorem on_cell (hd : OnD bgot bset cb b) {u : O1} : onH bgot bset cb b I u cb = some (.raw (.cells #[.int .i64 u.c.1, .int .i64 u.c.2] 52 (0, 0))) := by unfold onH; rw [if_neg (Ne.symm hd.d2), if_neg (Ne.symm hd.d4), if_pos rfl]
theorem on_lk (hd : OnD bgot bset cb b) {u : O1} : onH bgot bset cb b I u b = some (.raw (.cells (flat fLk (lksA 8 u.l)).toArray 54 (0, 0))) := by unfold onH; rw [if_neg (Ne.symm hd.d3), if_neg (Ne.symm hd.d5), if_neg (Ne.symm hd.d6), if_pos rfl]
theorem on_I {u : O1} {c : Nat} (h1 : c ≠ bgot) (h2 : c ≠ bset) (h3 : c ≠ cb) (h4 : c ≠ b) : onH bgot bset cb b I u c = I c := by unfold onH; rw [if_neg h1, if_neg h2, if_neg h3, if_neg h4]
def onL (hd : OnD bgot bset cb b) : LkW O1 (onH bgot bset cb b I) b 8 where
  get := fun u => u.l
  set := fun u l => { u with l := l }
  hb := fun u => on_lk hd
  hs := fun u l c hc => by unfold onH; simp only [if_neg hc]
  gs := fun u l => rfl
def onC (hd : OnD bgot bset cb b) : ClW O1 (onH bgot bset cb b I) cb where
  get := fun u => u.c
  set := fun u x => { u with c := x }
  hb := fun u => on_cell hd
  hs := fun u l c hc => by unfold onH; simp only [if_neg hc]
  gs := fun u l => rfl
theorem on_setx (hd : OnD bgot bset cb b) {t : Nat} {h : HF} : NxA (oL (B := B) (onH bgot bset cb b I)) t 0 Value.bool (fun ok u => ({ u with st := ok }, [])) (.func (.func 29) #[] #[.pointer (some ⟨bset, 0, none⟩)]) h := by
  refine .inr ⟨_, _, _, rfl, fun ok G (u : O1) s he => ?_⟩
  have o1 := (he.at (on_set hd (u := u))).1
  refine Fn.of is29 (by simp) fun hwf => ?_
  simp only [b29, Try.f29, Option.getD_some]
  simp -implicitDefEqProofs (disch := first | omega | (simp only [St.set_n, St.up_n, List.length_cons, List.length_nil]; omega)) only [go_sem, Nat.reduceAdd, Nat.reduceMul, Nat.reduceSub, Int.reduceAdd, Int.reduceMul, Int.reduceSub, Int.reduceNeg, Int.reduceToNat, o1]
  have := Aft.one (v := .nilFunc) (u' := { u with st := ok }) he (b := bset) (by rw [on_set hd]; simp) (Nat.le_refl s.n) (on_set hd) fun c hc => by unfold onH; simp only [if_neg hc]
  exact this.mono fun h _ => rep_nil _ _ _
theorem on_load (hd : OnD bgot bset cb b) {t bc bold : Nat} {old : Int} {h : HF} (hbc : ∀ u, onH bgot bset cb b I u bc = some (.raw (.cells #[.pointer (some ⟨cb, 0, none⟩)] 30 (0, 0)))) (hbo : ∀ u, onH bgot bset cb b I u bold = some (.raw (.cells #[.int .i64 old] 3 (0, 0)))) (hog : bold ≠ bgot) (hcg : bc ≠ bgot) :
    NxA (oL (B := B) (onH bgot bset cb b I)) t 1 (Value.int .i64) (fun x u => ({ u with got := x }, [.cs old])) (.func (.func 28) #[] #[.pointer (some ⟨bgot, 0, none⟩), .pointer (some ⟨bc, 0, none⟩), .pointer (some ⟨bold, 0, none⟩), .pointer (some ⟨bset, 0, none⟩)]) h := by
  refine .inr ⟨_, _, _, rfl, fun x G (u : O1) s he => ?_⟩
  have o1 := (he.at (on_got (u := u))).1
  have o2 := (he.at (hbc u)).1
  have o3 := (he.at (hbo u)).1
  refine Fn.of is28 (by simp) fun hwf => ?_
  simp only [b28, Try.f28, Option.getD_some]
  simp -implicitDefEqProofs (disch := first | omega | (simp only [St.set_n, St.up_n, List.length_cons, List.length_nil]; omega)) only [go_sem, Nat.reduceAdd, Nat.reduceMul, Nat.reduceSub, Int.reduceAdd, Int.reduceMul, Int.reduceSub, Int.reduceNeg, Int.reduceToNat, o1, o2, o3, hog, hcg]
  have hA := Aft.one (v := .nilFunc) (u' := { u with got := x }) he (b := bgot) (by rw [on_got]; simp) (Nat.le_refl s.n) on_got fun c hc => by unfold onH; simp only [if_neg hc]
  obtain ⟨h', e', hE⟩ := hA.env he (fun c hc => .inl hc) (by
    have := hwf.set (.raw (.cells #[.int .i64 x] 3 (0, 0))) (hwf.2 _ _ o1)
    exact this.up (Nat.le_refl _))
  subst e'
  refine callF_of (cas_of (L := oL (B := B) (onH bgot bset cb b I)) (t := t) (n := 0) (a := .cs old) (r := []) (ok := fun u => decide (u.c.1 = old)) (φ := casW (onC hd) old 7) ⟨_, rfl⟩ (cas_ok (onC hd) old 7) (on_setx (t := t) hd) (fun u => ⟨rfl, rfl, rfl⟩) hE fun v' s' ha hw => ?_)
  simp -implicitDefEqProofs (disch := first | omega | (simp only [St.set_n, St.up_n, List.length_cons, List.length_nil]; omega)) only [go_sem, Nat.reduceAdd, Nat.reduceMul, Nat.reduceSub, Int.reduceAdd, Int.reduceMul, Int.reduceSub, Int.reduceNeg, Int.reduceToNat]
  exact hA.trans ha
theorem on_next (hd : OnD bgot bset cb b) {t bc bold : Nat} {old : Int} {h : HF} (hbc : ∀ u, onH bgot bset cb b I u bc = some (.raw (.cells #[.pointer (some ⟨cb, 0, none⟩)] 30 (0, 0)))) (hbo : ∀ u, onH bgot bset cb b I u bold = some (.raw (.cells #[.int .i64 old] 3 (0, 0)))) (hog : bold ≠ bgot) (hcg : bc ≠ bgot) :
    NxOk (oL (B := B) (onH bgot bset cb b I)) t 2 (fun u => (u, [.ld, .cs old])) (.func (.func 27) #[] #[.pointer (some ⟨bc, 0, none⟩), .pointer (some ⟨bgot, 0, none⟩), .pointer (some ⟨bold, 0, none⟩), .pointer (some ⟨bset, 0, none⟩)]) h := by
  refine .inr ⟨_, _, _, rfl, fun G (u : O1) s he => ?_⟩
  have o2 := (he.at (hbc u)).1
  refine Fn.of is27 (by simp) fun hwf => ?_
  simp only [b27, Try.f27, Option.getD_some]
  simp -implicitDefEqProofs (disch := first | omega | (simp only [St.set_n, St.up_n, List.length_cons, List.length_nil]; omega)) only [go_sem, Nat.reduceAdd, Nat.reduceMul, Nat.reduceSub, Int.reduceAdd, Int.reduceMul, Int.reduceSub, Int.reduceNeg, Int.reduceToNat, o2]
  refine callF_of (load_of (L := oL (B := B) (onH bgot bset cb b I)) (t := t) (n := 1) (a := .ld) (r := [.cs old]) (val := fun u => u.c.1) (φ := loadW (onC hd)) ⟨_, rfl⟩ (load_ok (onC hd)) (on_load (t := t) hd hbc hbo hog hcg) (fun u => ⟨rfl, rfl, rfl⟩) he fun v' s' ha hw => ?_)
  simp -implicitDefEqProofs (disch := first | omega | (simp only [St.set_n, St.up_n, List.length_cons, List.length_nil]; omega)) only [go_sem, Nat.reduceAdd, Nat.reduceMul, Nat.reduceSub, Int.reduceAdd, Int.reduceMul, Int.reduceSub, Int.reduceNeg, Int.reduceToNat]
  exact ha
/-- What a group with such locks holds. -/
theorem on_held {σ : St} {g b : Nat} {l : Nat → Lk} {u : Int} {r : List Int} (hg : σ.m g = some (.raw (.cells #[.slice (some ⟨b, 0, none⟩) (8 : Nat) (8 : Nat)] 60 (0, 0)))) (hb : σ.m b = some (.raw (.cells (flat fLk (lksA 8 l)).toArray 54 (0, 0)))) (hu : 1 ≤ u) (hr : heldTo (lksA 8 l) u 8 = r)
    (hK : ∀ v τ, Own τ 3 1 (ints r) r.length v → (∀ c, blk v = some c → σ.n ≤ c) → (∀ c x, c < σ.n → σ.m c = some x → τ.m c = some x) → σ.n ≤ τ.n → τ.wf B → K v τ) : Fn Try.prog B 31 #[.pointer (some ⟨g, 0, none⟩), .int .i64 u] σ K := by
  have hG : IsGroup σ g b (lksA 8 l) := .inr ⟨by rw [lksA_len]; exact hg, hb⟩
  have he : held (lksA 8 l) u = r := by unfold held; rw [if_pos hu, lksA_len]; exact hr
  refine (group_held hG (by rw [lksA_len]; omega) fun v τ h1 h2 h3 h4 hw => ?_).wfK
  rw [he] at h1
  exact hK v τ h1 h2 h3 h4 hw
theorem LgI.call {L : Lg B} {k n : Nat} {G : Nat → Prop} {x : L.U × (Nat → List L.A)} {vs : List Value} {s : St} {f : FuncId} {args : Array Value} {T : List L.A} (hI : LgI L k G x vs s) (hw : s.wf B)
    (hc : ∀ (G' : Nat → Prop) (K' : Value → St → Prop), Env L (grow noH s s) G' x.1 s → (∀ v s', Aft L (Rep L k n T) G' x.1 s v s' → s'.wf B → K' v s') → Fn Try.prog B f args s K')
    (hK : ∀ v s', LgI L (k + 1) G (x.1, updL x.2 k T) (vs ++ [v]) s' → (∀ c y, G c → s.m c = some y → s'.m c = some y) → s.n ≤ s'.n → s'.wf B → StV v → K v s') : Fn Try.prog B f args s K := by
  obtain ⟨G', hG, hE, hfin⟩ := hI.fork hw (fun c _ => rfl) (Nat.le_refl _) hw
  refine hc G' K hE fun v s' ha hw' => ?_
  have h1 := hfin _ _ _ _ ha
  exact hK v s' h1 (fun c y hc hx => ha.keep c y (hG c hc) hx) ha.n hw' (h1.stepV (by simp))
/-- Something is made that is kept. -/
theorem LgI.alloc {L : Lg B} {k : Nat} {G : Nat → Prop} {x : L.U × (Nat → List L.A)} {vs : List Value} {s : St} (hI : LgI L k G x vs s) (hw : s.wf B) (y : HP) : LgI L k (fun c => G c ∨ c = s.n) x vs ((s.set s.n y).up (s.n + 1)) := by
  have hno : s.m s.n = none := by
    cases hx : s.m s.n with
    | none => rfl
    | some y => have := (hw.2 _ _ hx).2; omega
  have h1 := (lgSys L k).stable hI (s' := s.up (s.n + 1)) (fun c y _ hx => hx) (by simp only [St.up_n]; omega)
  have h2 := (lgSys L k).fresh h1 (q := s.n) hno (by simp only [St.up_n]; omega)
  refine (lgSys L k).stable h2 (fun c z hc hx => ?_) (by simp only [St.up_n, St.set_n]; omega)
  have hne : c ≠ s.n := fun e => hc (.inr e)
  have hx' : s.m c = some z := hx
  simp only [St.up_m]
  rw [St.set_m_ne _ _ hne]; exact hx'
theorem o2_eq (os : List Int) (u : O1) : (u, updL (updL (updL (updL (fun _ => []) 0 (os.map Act.fr)) 1 [Act.ef 0]) 2 [Act.ef 1]) 3 [Act.ef 2]) = o2S os u := by
  unfold o2S
  congr 1
  funext t
  unfold updL
  match t with
  | 0 => rfl
  | 1 => rfl
  | 2 => rfl
  | 3 => rfl
  | t + 4 => simp
theorem four_one {v0 v1 v2 v3 : Value} (h0 : StV v0) (h1 : StV v1) (h2 : StV v2) (h3 : StV v3) : ∀ v ∈ [v0, v1, v2, v3], v.cells = #[v] := by
  intro v hv
  simp only [List.mem_cons, List.not_mem_nil, or_false] at hv
  rcases hv with rfl | rfl | rfl | rfl
  · exact h0.one.1
  · exact h1.one.1
  · exact h2.one.1
  · exact h3.one.1
/-- The world in memory, behind the caller's. -/
structure OW (σ : St) {U : Type} (H : U → HF) (u : U) (s : St) : Prop where
  w : ∀ c y, H u c = some y → s.m c = some y ∧ ¬ c < σ.n
  old : ∀ c y, σ.m c = some y → s.m c = some y
  n : σ.n ≤ s.n
theorem OW.keep {σ : St} {U : Type} {H : U → HF} {u : U} {s s' : St} (h : OW σ H u s) (hk : ∀ c y, s.m c = some y → s'.m c = some y) (hn : s.n ≤ s'.n) : OW σ H u s' :=
  ⟨fun c y hc => ⟨hk _ _ (h.w c y hc).1, (h.w c y hc).2⟩, fun c y hx => hk _ _ (h.old c y hx), Nat.le_trans h.n hn⟩
theorem OW.lgi {σ : St} {U A : Type} {ex : Nat → U → A → U × List A × Bool} {H : U → HF} {u : U} {s : St} (h : OW σ H u s) : LgI (hLg (B := B) U A ex H) 0 (fun c => c < σ.n) (u, fun _ => []) [] s :=
  lgI_empty (fun c hc => Nat.lt_of_lt_of_le hc h.n) h.w
theorem LgI.ow {σ : St} {U A : Type} {ex : Nat → U → A → U × List A × Bool} {H : U → HF} {k : Nat} {x : U × (Nat → List A)} {vs : List Value} {s : St} (hI : LgI (hLg (B := B) U A ex H) k (fun c => c < σ.n) x vs s) (ho : ∀ c y, σ.m c = some y → s.m c = some y) (hn : σ.n ≤ s.n) : OW σ H x.1 s := by
  obtain ⟨hs, h1, h2, h3, h4, h5⟩ := hI.hs
  exact ⟨fun c y hc => ⟨(h4 c y hc).1, fun hl => (h4 c y hc).2 (.inl hl)⟩, ho, hn⟩
theorem LgI.owE {σ : St} {U A : Type} {ex : Nat → U → A → U × List A × Bool} {H : U → HF} {k tb : Nat} {x : U × (Nat → List A)} {vs : List Value} {s : St} (hI : LgI (hLg (B := B) U A ex H) k (fun c => c < σ.n ∨ c = tb) x vs s) (ho : ∀ c y, σ.m c = some y → s.m c = some y) (hn : σ.n ≤ s.n) (ht : σ.n ≤ tb) (hwf : σ.wf B) (y : HP) : OW σ H x.1 (s.set tb y) := by
  obtain ⟨hs, h1, h2, h3, h4, h5⟩ := hI.hs
  refine ⟨fun c z hc => ⟨?_, fun hl => (h4 c z hc).2 (.inl (.inl hl))⟩, fun c z hx => ?_, hn⟩
  · have hne : c ≠ tb := fun e => (h4 c z hc).2 (.inl (.inr e))
    rw [St.set_m_ne _ _ hne]; exact (h4 c z hc).1
  · have := (hwf.2 _ _ hx).2
    rw [St.set_m_ne _ _ (by omega)]; exact ho c z hx
theorem LgI.keep {L : Lg B} {k : Nat} {G : Nat → Prop} {x : L.U × (Nat → List L.A)} {vs : List Value} {s s' : St} (hI : LgI L k G x vs s) (hk : ∀ c y, s.m c = some y → s'.m c = some y) (hn : s.n ≤ s'.n) : LgI L k G x vs s' :=
  (lgSys L k).stable hI (fun c y _ hx => hk c y hx) hn
end
end Go.Proofs.Ytdbgeahmhfocaaa
