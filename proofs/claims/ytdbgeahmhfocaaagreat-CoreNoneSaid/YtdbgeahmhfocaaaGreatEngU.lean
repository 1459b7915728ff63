/- Slices that a frame owns, and objects that are folded: how they are opened, changed and closed. -/
import Derived.Test.YtdbgeahmhfocaaaGreatEngT
namespace Go.Proofs.YtdbgeahmhfocaaaGreat
set_option linter.unusedSimpArgs false
set_option linter.unusedVariables false
open Go Go.RowKit

/-! ### Cells of a row -/
section
variable {P : Program} {B : World} {σ : St}

theorem rds_cells {b o : Nat} {c : Array Value} {ty : TypeId} {fz : Nat × Nat} (hm : σ.m b = some (.raw (.cells c ty fz))) : ∀ (l : List Value) (i : Nat), (∀ j v, l[j]? = some v → c[o + i + j]? = some v) → rds B σ ⟨b, o, none⟩ i l.length = some l
  | [], i, _ => rfl
  | v :: l, i, h => by
    simp only [List.length_cons, rds_succ, hm]
    have h0 := h 0 v rfl
    simp only [Nat.add_zero] at h0
    rw [rdK_raw, h0, rds_cells hm l (i + 1) fun j v hj => by
      have := h (j + 1) v (by simpa using hj)
      rw [← this]; congr 1; omega]
    rfl

theorem wrl_list : ∀ (vs xs sp : List Value), vs.length ≤ sp.length → wrl (xs ++ sp).toArray xs.length vs = (xs ++ vs ++ sp.drop vs.length).toArray
  | [], xs, sp, _ => by simp [wrl]
  | v :: vs, xs, [], h => by simp at h
  | v :: vs, xs, y :: sp, h => by
    simp only [wrl, List.length_cons, List.drop_succ_cons]
    have e : (xs ++ y :: sp).toArray.setIfInBounds xs.length v = ((xs ++ [v]) ++ sp).toArray := by
      simp [List.setIfInBounds_toArray]
    rw [e]
    have hl : xs.length + 1 = (xs ++ [v]).length := by simp
    rw [hl, wrl_list vs (xs ++ [v]) sp (by simpa using h)]
    simp

/-- Rows of cells laid one behind another. -/
def flat {α : Type} (f : α → List Value) (l : List α) : List Value := l.flatMap f
theorem flat_length {α : Type} {f : α → List Value} {s : Nat} (hf : ∀ x, (f x).length = s) : ∀ l : List α, (flat f l).length = l.length * s
  | [] => by simp [flat]
  | x :: l => by
    have := flat_length hf l
    simp only [flat, List.flatMap_cons, List.length_append, List.length_cons] at this ⊢
    rw [this, hf, Nat.add_mul, Nat.one_mul, Nat.add_comm]
theorem flat_get {α : Type} {f : α → List Value} {s : Nat} (hf : ∀ x, (f x).length = s) : ∀ (l : List α) (sp : List Value) (i : Nat) (x : α) (j : Nat) (v : Value), l[i]? = some x → (f x)[j]? = some v → (flat f l ++ sp)[i * s + j]? = some v
  | [], sp, i, x, j, v, h, _ => by simp at h
  | y :: l, sp, 0, x, j, v, h, hj => by
    simp at h; subst h
    have hl := (List.getElem?_eq_some_iff.1 hj).1
    simp only [flat, List.flatMap_cons, List.append_assoc, Nat.zero_mul, Nat.zero_add]
    rw [List.getElem?_append_left hl]; exact hj
  | y :: l, sp, i + 1, x, j, v, h, hj => by
    have := flat_get hf l sp i x j v (by simpa using h) hj
    simp only [flat, List.flatMap_cons, List.append_assoc] at this ⊢
    rw [List.getElem?_append_right (by rw [hf, Nat.add_mul]; omega)]
    rw [← this, hf, Nat.add_mul]; congr 1; omega
theorem flat_append {α : Type} (f : α → List Value) (l l' : List α) : flat f (l ++ l') = flat f l ++ flat f l' := by simp [flat]
theorem flat_set {α : Type} {f : α → List Value} {s : Nat} (hf : ∀ x, (f x).length = s) : ∀ (l : List α) (sp : List Value) (i : Nat) (x x' : α) (j : Nat) (v : Value), l[i]? = some x → j < s → f x' = (f x).set j v →
    (flat f l ++ sp).set (i * s + j) v = flat f (l.set i x') ++ sp
  | [], sp, i, x, x', j, v, h, _, _ => by simp at h
  | y :: l, sp, 0, x, x', j, v, h, hj, hx => by
    simp at h; subst h
    simp only [flat, List.flatMap_cons, List.append_assoc, Nat.zero_mul, Nat.zero_add, List.set_cons_zero, hx]
    rw [List.set_append_left _ _ (by rw [hf]; exact hj)]
  | y :: l, sp, i + 1, x, x', j, v, h, hj, hx => by
    have := flat_set hf l sp i x x' j v (by simpa using h) hj hx
    simp only [flat, List.flatMap_cons, List.append_assoc, List.set_cons_succ] at this ⊢
    rw [List.set_append_right _ _ (by rw [hf, Nat.add_mul]; omega), ← this, hf]
    congr 2; rw [Nat.add_mul]; omega

/-! ### A slice that is owned -/
/-- The block of a slice. -/
def blk : Value → Option Nat
  | .slice (some a) _ _ => some a.block
  | _ => none

/-- The slice 'v' of 'n' elements of 's' cells each holds the cells 'cs'; its block is one of the view's own, laid open. -/
def Own (σ : St) (ty : TypeId) (s : Nat) (cs : List Value) (n : Nat) (v : Value) : Prop :=
  cs.length = n * s ∧ ((v = .slice none 0 0 ∧ n = 0) ∨ ∃ b cap sp, v = .slice (some ⟨b, 0, none⟩) n cap ∧ n ≤ cap ∧ σ.m b = some (.raw (.cells (cs ++ sp).toArray ty (0, 0))) ∧ (cs ++ sp).length = cap * s)

theorem Own.nil {ty : TypeId} {s : Nat} : Own σ ty s [] 0 (.slice none 0 0) := ⟨by simp, .inl ⟨rfl, rfl⟩⟩

theorem Own.keep {ty : TypeId} {s n : Nat} {cs : List Value} {v : Value} {σ' : St} (h : Own σ ty s cs n v) (hk : ∀ b x, blk v = some b → σ.m b = some x → σ'.m b = some x) : Own σ' ty s cs n v := by
  obtain ⟨h1, h | ⟨b, cap, sp, rfl, h2, h3, h4⟩⟩ := h
  · exact ⟨h1, .inl h⟩
  · exact ⟨h1, .inr ⟨b, cap, sp, rfl, h2, hk b _ rfl h3, h4⟩⟩

theorem Own.is {ty : TypeId} {s n : Nat} {cs : List Value} {v : Value} (h : Own σ ty s cs n v) : ∃ a cap, v = .slice a n cap ∧ n ≤ cap := by
  obtain ⟨h1, ⟨rfl, rfl⟩ | ⟨b, cap, sp, rfl, h2, _⟩⟩ := h
  · exact ⟨_, _, rfl, Nat.le_refl _⟩
  · exact ⟨_, _, rfl, h2⟩

theorem Own.fc {ty : TypeId} {s n : Nat} {cs : List Value} {v : Value} (h : Own σ ty s cs n v) : fc B σ s v = some (n, cs) := by
  obtain ⟨h1, ⟨rfl, rfl⟩ | ⟨b, cap, sp, rfl, h2, h3, h4⟩⟩ := h
  · have : cs = [] := by simpa using h1
    subst this; rfl
  · have := rds_cells (B := B) (o := 0) h3 cs 0 (fun j v hj => by
      have hl := (List.getElem?_eq_some_iff.1 hj).1
      simp only [Nat.zero_add, List.getElem?_toArray]
      rw [List.getElem?_append_left hl]; exact hj)
    simp only [Go.Proofs.YtdbgeahmhfocaaaGreat.fc, ← h1, this, Option.map_some]

theorem Own.trunc {ty : TypeId} {s n : Nat} {cs : List Value} {a : Option Addr} {cap : Nat} (h : Own σ ty s cs n (.slice a n cap)) {k : Nat} (hk : k ≤ n) : Own σ ty s (cs.take (k * s)) k (.slice a k cap) := by
  obtain ⟨h1, ⟨h2, rfl⟩ | ⟨b, cap, sp, h2, h3, h4, h5⟩⟩ := h
  · have : k = 0 := by omega
    subst this
    cases h2
    exact ⟨by simp, .inl ⟨rfl, rfl⟩⟩
  · cases h2
    have hks : k * s ≤ cs.length := by rw [h1]; exact Nat.mul_le_mul_right _ hk
    refine ⟨by simp; omega, .inr ⟨b, cap, cs.drop (k * s) ++ sp, rfl, by omega, ?_, ?_⟩⟩
    · rw [← List.append_assoc, List.take_append_drop]; exact h4
    · rw [← List.append_assoc, List.take_append_drop]; exact h5

/-- 'append' to a slice that is owned: of whatever can be read. -/
theorem app_own2 {K : Value → St → Prop} {t xt el : TypeId} {s bts n m : Nat} {z sv xv : Value} {cs ys : List Value} (ht : se P t = some (el, s, bts)) (hxt : kd P xt = .string ∨ kd P xt = .slice) (hz : zr P el = some z) (hzs : z.cells.size = s) (hb0 : bts ≠ 0)
    (hs : Own σ el s cs n sv) (hx : fc B σ s xv = some (m, ys)) (hyl : ys.length = m * s) (hy1 : ys.all Value.oneCell' = true) (hroom : (2 * (n + m) + 768) * bts ≤ 2 ^ 48)
    (hK : ∀ v' σ', Own σ' el s (cs ++ ys) (n + m) v' → (∀ b, blk v' = some b → (b = σ.n ∧ σ.n < σ'.n) ∨ blk sv = some b) → (∀ c, blk v' ≠ some c → σ'.m c = σ.m c) → σ.n ≤ σ'.n → K v' σ') :
    appS P B σ t xt sv xv K := by
  have hfs := hs.fc (B := B)
  obtain ⟨h1, hcase⟩ := hs
  have grow : ∀ nc, n + m ≤ nc → K (.slice (some ⟨σ.n, 0, none⟩) (n + m) nc) (σ.new (.cells ((cs ++ ys).toArray ++ Builtin.zeroCells z.cells (nc - (n + m))) el (0, 0))) := by
    intro nc hnc
    refine hK _ _ ⟨by simp [h1, hyl, Nat.add_mul], .inr ⟨σ.n, nc, (Builtin.zeroCells z.cells (nc - (n + m))).toList, rfl, hnc, ?_, ?_⟩⟩ (fun b hb => by simp [blk] at hb; exact .inl ⟨hb.symm, by simp⟩) (fun c hc => ?_) (by simp)
    · rw [St.new_m_same]; congr 3; apply Array.ext'; simp
    · simp only [List.length_append, h1, hyl, Builtin.zeroCells, Array.length_toList, Array.size_map, Array.size_range, hzs]
      rw [← Nat.add_mul, ← Nat.add_mul]; congr 1; omega
    · refine St.new_m_ne _ _ fun e => hc (by simp [blk, e])
  rcases hcase with ⟨rfl, rfl⟩ | ⟨b, cap, sp, rfl, h2, h3, h4⟩
  · refine ⟨none, 0, 0, el, s, bts, m, ys, z, rfl, ht, hxt, hx, hz, hb0, hyl, hy1, fun hm => ?_, fun hm => ⟨by simpa using hroom, cs, hfs, fun nc hnc => grow nc hnc⟩⟩
    have : m = 0 := by omega
    subst this
    have hy : ys = [] := by simpa using hyl
    have hc : cs = [] := by simpa using h1
    subst hy hc
    exact ⟨σ, rfl, hK _ _ Own.nil (fun b hb => by simp [blk] at hb) (fun _ _ => rfl) (Nat.le_refl _)⟩
  · refine ⟨some ⟨b, 0, none⟩, n, cap, el, s, bts, m, ys, z, rfl, ht, hxt, hx, hz, hb0, hyl, hy1, fun hm => ?_, fun hm => ⟨hroom, cs, hfs, fun nc hnc => grow nc hnc⟩⟩
    have hspl : ys.length ≤ sp.length := by
      have h5 : (n + m) * s ≤ cap * s := Nat.mul_le_mul_right _ hm
      rw [Nat.add_mul] at h5
      rw [List.length_append] at h4
      omega
    have hadd : (⟨b, 0, none⟩ : Addr).add (n * s) = ⟨b, n * s, none⟩ := by rw [add_mk]; simp
    refine ⟨σ.set b (.raw (.cells (cs ++ ys ++ sp.drop ys.length).toArray el (0, 0))), ?_, ?_⟩
    · simp only [hadd, wrs_eq, h3, wrK_raw]
      rw [if_pos ⟨by rw [List.size_toArray, List.length_append]; omega, hy1⟩, ← h1, wrl_list _ _ _ hspl]
    · refine hK _ _ ⟨by simp [h1, hyl, Nat.add_mul], .inr ⟨b, cap, sp.drop ys.length, rfl, hm, by rw [St.set_m_same], ?_⟩⟩ (fun b' hb' => .inr hb') (fun c hc => ?_) (Nat.le_refl _)
      · rw [← h4]; simp; omega
      · exact St.set_m_ne _ _ fun e => hc (by simp [blk, e])
theorem app_own {K : Value → St → Prop} {t xt el : TypeId} {s bts n m : Nat} {z sv xv : Value} {cs ys : List Value} (ht : se P t = some (el, s, bts)) (hxt : kd P xt = .string ∨ kd P xt = .slice) (hz : zr P el = some z) (hzs : z.cells.size = s) (hb0 : bts ≠ 0)
    (hs : Own σ el s cs n sv) (hx : fc B σ s xv = some (m, ys)) (hyl : ys.length = m * s) (hy1 : ys.all Value.oneCell' = true) (hroom : (2 * (n + m) + 768) * bts ≤ 2 ^ 48)
    (hK : ∀ v' σ', Own σ' el s (cs ++ ys) (n + m) v' → (∀ b, blk v' = some b → b = σ.n ∨ blk sv = some b) → (∀ c, blk v' ≠ some c → σ'.m c = σ.m c) → σ.n ≤ σ'.n → K v' σ') :
    appS P B σ t xt sv xv K := app_own2 ht hxt hz hzs hb0 hs hx hyl hy1 hroom fun v' σ' h1 h2 h3 h4 => hK v' σ' h1 (fun b hb => (h2 b hb).imp And.left id) h3 h4
end

/-! ### A literal slice of one element; 'append' as the walk meets it -/
section
variable {P : Program} {B : World} {σ : St} {d : Option Tmp} {K : Fr → St → Prop} {e : Fr}
def bslY (el : TypeId) (d : Option Tmp) (K : Fr → St → Prop) (e : Fr) (σ : St) (s : Nat) (cs : Array Value) : Prop :=
  if cs.size = s ∧ s ≤ 16777216 then K (e.put d (.slice (some ⟨σ.n, 0, none⟩) 1 1)) ((σ.set σ.n (.raw (.cells cs el (0, 0)))).up (σ.n + 1)) else False
def bslZ (el : TypeId) (s : Nat) (v : Value) (d : Option Tmp) (K : Fr → St → Prop) (e : Fr) (σ : St) : Option Value → Prop
  | some _ => bslY el d K e σ s (vc v)
  | none => False
def bslR (P : Program) (v : Value) (d : Option Tmp) (K : Fr → St → Prop) (e : Fr) (σ : St) : Option (TypeId × Nat × Nat) → Prop
  | some (el, s, _) => bslZ el s v d K e σ (zr P el)
  | none => False
theorem wrl_all (c : Array Value) (l : List Value) (h : l.length = c.size) : wrl c 0 l = l.toArray := by
  have := wrl_list l [] c.toList (by simp [h])
  simp only [List.nil_append, List.length_nil, Array.toArray_toList] at this
  rw [this, List.drop_eq_nil_of_le (by simp [h])]; simp
@[go_sem] theorem bslK_one {t : TypeId} {v : Value} : bslK P t 1 [(0, v)] d K e σ = bslR P v d K e σ (se P t) := by
  unfold bslK bsl bslR bindK
  cases hse : se P t with
  | none => simp
  | some x =>
    obtain ⟨el, s, b⟩ := x
    simp only [Option.some.injEq, exists_eq_left']
    unfold bslZ
    cases hz : zr P el with
    | none => simp
    | some z =>
      simp only [Option.some.injEq, exists_eq_left']
      unfold bslY
      have hsz : (zcells z.cells (1 * s)).size = s := by simp [zcells]
      have hfl : Instr.fill (fun i => some (i * s, s)) (zcells z.cells (1 * s)) [(0, v)] = if (vc v).size = s then some (vc v) else none := by
        show fl _ _ _ = _
        rw [fill_cons, fillK_some, fill_nil]
        by_cases hv : (vc v).size = s
        · rw [if_neg (by simp only [hsz]; omega), if_pos hv, Nat.zero_mul, wrl_all _ _ (by simp only [hsz, Array.length_toList]; exact hv)]
        · rw [if_pos (.inl hv), if_neg hv]
      rw [hfl]
      apply propext
      by_cases hv : (vc v).size = s
      · simp only [hv, if_true, true_and, Option.some.injEq, exists_eq_left', Nat.one_mul]
        constructor
        · rintro ⟨h1, h3⟩; rw [if_pos h1]; exact h3
        · intro h
          split at h
          · rename_i hh; exact ⟨hh, h⟩
          · exact h.elim
      · simp [hv]
@[go_sem] theorem bslR_some {v : Value} {el : TypeId} {s b : Nat} : bslR P v d K e σ (some (el, s, b)) = bslZ el s v d K e σ (zr P el) := rfl
@[go_sem] theorem bslZ_some {v z : Value} {el : TypeId} {s : Nat} : bslZ el s v d K e σ (some z) = bslY el d K e σ s (vc v) := rfl
@[go_sem] theorem bslY_eq {el : TypeId} {s : Nat} {cs : Array Value} : bslY el d K e σ s cs = if cs.size = s ∧ s ≤ 16777216 then K (e.put d (.slice (some ⟨σ.n, 0, none⟩) 1 1)) ((σ.set σ.n (.raw (.cells cs el (0, 0)))).up (σ.n + 1)) else False := rfl

/-- '[]T{}'. -/
def bsl0 (P : Program) (d : Option Tmp) (K : Fr → St → Prop) (e : Fr) (σ : St) : Option (TypeId × Nat × Nat) → Prop
  | some (el, _, _) => bindK (zr P el) fun _ => K (e.put d (.slice (some ⟨σ.n, 0, none⟩) 0 0)) ((σ.set σ.n (.raw (.cells #[] el (0, 0)))).up (σ.n + 1))
  | none => False
@[go_sem] theorem bslK_nil {t : TypeId} : bslK P t 0 [] d K e σ = bsl0 P d K e σ (se P t) := by
  unfold bslK bsl bsl0 bindK
  cases hse : se P t with
  | none => simp
  | some x =>
    obtain ⟨el, s, b⟩ := x
    have hz : ∀ z : Value, zcells z.cells 0 = #[] := fun z => by simp [zcells, Array.range]
    simp only [Option.some.injEq, exists_eq_left', Nat.zero_mul, hz, Instr.fill, Nat.zero_le, true_and]
    rfl
@[go_sem] theorem bsl0_some {el : TypeId} {s b : Nat} : bsl0 P d K e σ (some (el, s, b)) = bindK (zr P el) fun _ => K (e.put d (.slice (some ⟨σ.n, 0, none⟩) 0 0)) ((σ.set σ.n (.raw (.cells #[] el (0, 0)))).up (σ.n + 1)) := rfl

/-- A block's own cells, read whole. -/
theorem fc_block {b n c s : Nat} {l : List Value} {ty : TypeId} {fz : Nat × Nat} (hm : σ.m b = some (.raw (.cells l.toArray ty fz))) (hl : l.length = n * s) : fc B σ s (.slice (some ⟨b, 0, none⟩) n c) = some (n, l) := by
  have := rds_cells (B := B) (o := 0) hm l 0 (fun j v hj => by simpa using hj)
  simp only [fc, ← hl, this, Option.map_some]
/-- 'append' of one element that a literal slice holds, to a slice that is owned. -/
theorem appK_one {t xt el : TypeId} {s bts n b c : Nat} {z sv : Value} {cs ys : List Value} (ht : se P t = some (el, s, bts)) (hxt : kd P xt = .slice) (hz : zr P el = some z) (hzs : z.cells.size = s) (hb0 : bts ≠ 0)
    (hs : Own σ el s cs n sv) {ty : TypeId} {fz : Nat × Nat} (hm : σ.m b = some (.raw (.cells ys.toArray ty fz))) (hyl : ys.length = s) (hy1 : ys.all Value.oneCell' = true) (hroom : (2 * (n + 1) + 768) * bts ≤ 2 ^ 48)
    (hK : ∀ v' σ', Own σ' el s (cs ++ ys) (n + 1) v' → (∀ b, blk v' = some b → b = σ.n ∨ blk sv = some b) → (∀ c, blk v' ≠ some c → σ'.m c = σ.m c) → σ.n ≤ σ'.n → K (e.put d v') σ') :
    appK P B t xt sv (.slice (some ⟨b, 0, none⟩) 1 c) d K e σ :=
  app_own ht (.inr hxt) hz hzs hb0 hs (fc_block hm (by omega)) (by omega) hy1 hroom fun v' σ' h1 h2 h3 h4 => hK v' σ' h1 h2 h3 h4
end

theorem appK_one2 {P : Program} {B : World} {σ : St} {d : Option Tmp} {K : Fr → St → Prop} {e : Fr} {t xt el : TypeId} {s bts n b c : Nat} {z sv : Value} {cs ys : List Value} (ht : se P t = some (el, s, bts)) (hxt : kd P xt = .slice) (hz : zr P el = some z) (hzs : z.cells.size = s) (hb0 : bts ≠ 0)
    (hs : Own σ el s cs n sv) {ty : TypeId} {fz : Nat × Nat} (hm : σ.m b = some (.raw (.cells ys.toArray ty fz))) (hyl : ys.length = s) (hy1 : ys.all Value.oneCell' = true) (hroom : (2 * (n + 1) + 768) * bts ≤ 2 ^ 48)
    (hK : ∀ v' σ', Own σ' el s (cs ++ ys) (n + 1) v' → (∀ b, blk v' = some b → (b = σ.n ∧ σ.n < σ'.n) ∨ blk sv = some b) → (∀ c, blk v' ≠ some c → σ'.m c = σ.m c) → σ.n ≤ σ'.n → K (e.put d v') σ') :
    appK P B t xt sv (.slice (some ⟨b, 0, none⟩) 1 c) d K e σ :=
  app_own2 ht (.inr hxt) hz hzs hb0 hs (fc_block hm (by omega)) (by omega) hy1 hroom fun v' σ' h1 h2 h3 h4 => hK v' σ' h1 h2 h3 h4

/-! ### Objects that are folded -/
section
variable {P : Program} {B : World} {σ : St} {K : Value → St → Prop} {f : FuncId} {args : Array Value}

/-- A function's contract where an object is opened ahead of the call: what is left to know of the view behind. -/
theorem Fn.opens {p : Nat} {R : Heaplet → Prop} (hm : σ.m p = some (.comp R)) (he : ∃ fn, P.funcs[f]? = some fn ∧ (fn.name == "runtime.NumGoroutine") = false ∧ fn.body.isSome = true)
    (h : ∀ (g : Heaplet) (τ : St), R g → τ.wf B → τ.n = σ.n → (∀ c o, g c = some o → τ.m c = some (.raw o)) → (∀ c o, g c = some o → c = p ∨ σ.m c = none) → (∀ c x, c ≠ p → σ.m c = some x → τ.m c = some x) → Fn P B f args τ K) : Fn P B f args σ K := by
  refine ⟨he, fun w hw => ?_⟩
  obtain ⟨g, hR, hd, hr⟩ := hw.opens hm
  refine (h g (σ.over p g) hR hr.wf rfl (fun c o hc => by simp [St.over, hc]) hd (fun c x hcp hc => ?_)).2 w hr
  have hgc : g c = none := by
    cases hg : g c with
    | none => rfl
    | some o => rcases hd c o hg with h1 | h1
                · exact absurd h1 hcp
                · rw [hc] at h1; cases h1
  simp [St.over, hgc, hcp, hc]

/-- Some blocks of a view, as they lie. -/
def pick (τ : St) (ids : List Nat) : Heaplet := fun c => if c ∈ ids then (match τ.m c with | some (.raw o) => some o | _ => none) else none
theorem pick_of {τ : St} {ids : List Nat} {c : Nat} {o : Obj} (hc : c ∈ ids) (hm : τ.m c = some (.raw o)) : pick τ ids c = some o := by simp [pick, hc, hm]

/-- An object is closed: the blocks 'ids' are hidden in it; all else that was there is there. -/
theorem To.close {τ : St} {p : Nat} {R : Heaplet → Prop} (ids : List Nat) {o : Obj} (hp : p ∈ ids) (hpo : τ.m p = some (.raw o)) (hR : R (pick τ ids))
    (hrest : ∀ c x, c ≠ p → σ.m c = some x → c ∉ ids ∧ τ.m c = some x) : To B τ ((σ.set p (.comp R)).up τ.n) := by
  have h1 : To B τ (τ.fold p (pick τ ids) R) := To.fold p (pick τ ids) (fun c o' hc => by
    unfold pick at hc
    split at hc
    · split at hc <;> first | contradiction | skip
      rename_i o2 hm
      cases hc; exact hm
    · cases hc) (by rw [pick_of hp hpo]; rfl) hR
  refine h1.trans (To.sub rfl fun c x hc => ?_)
  simp only [St.up_m] at hc
  by_cases e : c = p
  · subst e
    rw [St.set_m_same] at hc; cases hc
    simp [St.fold]
  · rw [St.set_m_ne _ _ e] at hc
    obtain ⟨h2, h3⟩ := hrest c x e hc
    simp [St.fold, e, pick, h2, h3]
end
end Go.Proofs.YtdbgeahmhfocaaaGreat
