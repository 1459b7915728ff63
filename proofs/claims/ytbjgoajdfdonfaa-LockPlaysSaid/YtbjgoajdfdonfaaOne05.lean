/- 'LockOne': the walk; and the arguments of the first two laws of layer 5. -/
import Derived.Test.YtbjgoajdfdonfaaLock
import Derived.Test.YtbjgoajdfdonfaaRows
namespace Go.Proofs.Ytbjgoajdfdonfaa
set_option linter.unusedSimpArgs false
set_option linter.unusedVariables false
set_option maxRecDepth 100000
open Go Go.RowKit Go.WideShapes
section
variable {B : World} {σ : St} {K : Value → St → Prop}

/-- A number as it lies in memory. -/
def RInt (x : Int) (cs : List Value) : Prop := cs = [.int .i64 x]
theorem St.wf.low (h : σ.wf B) {b : Nat} (hb : b < B.heap.size) : σ.m b = none := by
  cases hm : σ.m b with
  | none => rfl
  | some x => have := (h.2 b x hm).1; omega

/-- Who holds a lock behind a try, behind a freeing. -/
def tryV (x u : Int) : Int := if u < 1 then x else if x = 0 then u else x
def freeV (x u : Int) : Int := if u < 1 then x else if x = u then 0 else x
theorem tryC_lit (x n k u : Int) : ∃ n' k', tryC #[.int .i64 x, .int .i64 n, .int .i64 k] 0 x n k u = #[.int .i64 (tryV x u), .int .i64 n', .int .i64 k'] := by
  unfold tryC tryV
  by_cases h1 : u < 1
  · simp only [h1, if_true]; exact ⟨_, _, rfl⟩
  · by_cases h0 : x = 0
    · simp only [h1, h0, if_true, if_false]; exact ⟨_, _, rfl⟩
    · simp only [h1, h0, if_false]; exact ⟨_, _, rfl⟩
theorem freeC_lit (x n k u : Int) : ∃ n', freeC #[.int .i64 x, .int .i64 n, .int .i64 k] 0 x n u = #[.int .i64 (freeV x u), .int .i64 n', .int .i64 k] := by
  unfold freeC freeV
  by_cases h1 : u < 1
  · simp only [h1, if_true]; exact ⟨_, rfl⟩
  · by_cases h0 : x = u
    · simp only [h1, h0, if_true, if_false]; exact ⟨_, rfl⟩
    · simp only [h1, h0, if_false]; exact ⟨_, rfl⟩

/-- Who frees a lock that he holds frees it: whoever held it, whoever tried. -/
theorem lawOne (x u w : Int) : freeE (tryV x u) w = 0 ↔ freeV (tryV x u) w = 0 ∧ (x ≠ 0 ∨ tryB x u = true) := by
  unfold freeE freeV tryV tryB
  by_cases hw : w < 1
  · by_cases hu : u < 1
    · simp only [hw, hu, if_true]; simp
    · by_cases hx : x = 0
      · simp only [hw, hu, hx, if_true, if_false]; simp; omega
      · simp only [hw, hu, hx, if_true, if_false]; simp
  · by_cases hu : u < 1
    · simp only [hw, hu, if_true, if_false]; by_cases hxw : x = w <;> simp [hxw] <;> omega
    · by_cases hx : x = 0
      · simp only [hw, hu, hx, if_true, if_false]; by_cases hxw : u = w <;> simp [hxw]; omega
      · simp only [hw, hu, hx, if_false]; by_cases hxw : x = w <;> simp [hxw, hx]; omega

set_option maxHeartbeats 4000000 in
theorem one05 {l : List Int} {v : Value} (hl : SlR B 1 RInt l v) (hK : ∀ k, σ.n ≤ k → K (.bool true) (σ.up k)) : Fn Try.prog B 5 #[v] σ K := by
  obtain ⟨a, cap, rfl, hlc, hcm, hnil, hat⟩ := hl
  refine Fn.of' is5 (by simp) fun hwf => ?_
  have hB := hwf.1
  simp only [b5, Try.f5, Option.getD_some]
  simp -implicitDefEqProofs (disch := first | omega | (simp only [St.set_n, St.up_n, List.length_cons, List.length_nil]; omega)) only [go_sem, Nat.reduceAdd, Nat.reduceMul, Nat.reduceSub, Int.reduceAdd, Int.reduceMul, Int.reduceSub, Int.reduceNeg, Int.reduceToNat]
  refine callF_of (awake05 fun k hk => ?_)
  simp -implicitDefEqProofs (disch := first | omega | (simp only [St.set_n, St.up_n, List.length_cons, List.length_nil]; omega)) only [go_sem, Nat.reduceAdd, Nat.reduceMul, Nat.reduceSub, Int.reduceAdd, Int.reduceMul, Int.reduceSub, Int.reduceNeg, Int.reduceToNat]
  refine loop_rule' (fun m e s => ∃ (i : Nat) (x n c : Int), m = l.length - i ∧ i ≤ l.length ∧ e.v 0 = .slice a l.length cap ∧ e.v 3 = .pointer (some ⟨k, 0, none⟩) ∧ e.v 4 = .int .i64 i ∧ e.d = [] ∧
    s.m k = some (.raw (.cells #[.int .i64 x, .int .i64 n, .int .i64 c] 48 (0, 0))) ∧ (∀ c x, c < σ.n → σ.m c = some x → s.m c = some x) ∧ k ≤ s.n) l.length 0
    (fun e s => e.d = [] ∧ (∀ c x, c < σ.n → σ.m c = some x → s.m c = some x) ∧ k ≤ s.n) ?_ ?_ ?_
  · refine ⟨0, 0, 0, 0, by omega, by omega, ?_⟩
    simp -implicitDefEqProofs (disch := first | omega | (simp only [St.set_n, St.up_n, List.length_cons, List.length_nil]; omega)) only [go_sem, Nat.reduceAdd, Nat.reduceMul, Nat.reduceSub, Int.reduceAdd, Int.reduceMul, Int.reduceSub, Int.reduceNeg, Int.reduceToNat]
    simp
    exact fun c x hc hx => by simp -implicitDefEqProofs (disch := first | omega | (simp only [St.set_n, St.up_n, List.length_cons, List.length_nil]; omega)) only [go_sem, Nat.reduceAdd, Nat.reduceMul, Nat.reduceSub, Int.reduceAdd, Int.reduceMul, Int.reduceSub, Int.reduceNeg, Int.reduceToNat, hx]
  · rintro m e s hws ⟨i, x, n, c, hm, hi, h0, h3, h4, hd, hc, hσ, hks⟩
    simp -implicitDefEqProofs (disch := first | omega | (simp only [St.set_n, St.up_n, List.length_cons, List.length_nil]; omega)) only [go_sem, Nat.reduceAdd, Nat.reduceMul, Nat.reduceSub, Int.reduceAdd, Int.reduceMul, Int.reduceSub, Int.reduceNeg, Int.reduceToNat, h0, h3, h4]
    by_cases hlt : (i : Int) < l.length
    · by_cases h300 : (i : Int) < 300
      · obtain ⟨u, hacc⟩ : ∃ x, l[i]? = some x := ⟨l[i]'(by omega), List.getElem?_eq_getElem (by omega)⟩
        have hjlt : i * 7 % l.length < l.length := Nat.mod_lt _ (by omega)
        obtain ⟨w, hacc'⟩ : ∃ x, l[i * 7 % l.length]? = some x := ⟨l[i * 7 % l.length], List.getElem?_eq_getElem hjlt⟩
        obtain ⟨b, o, cs, rfl, hb, hR, hsz, hcell⟩ := hat i _ hacc
        obtain ⟨b', o', cs', he, hb', hR', hsz', hcell'⟩ := hat _ _ hacc'
        cases he
        simp only [RInt] at hR hR'
        subst hR hR'
        have c0 : B.cell? ⟨b, o + i, none⟩ = some (.int .i64 u) := by have := hcell 0 _ rfl; rwa [Nat.mul_one, Nat.add_zero] at this
        have c1 : B.cell? ⟨b, o + i * 7 % l.length, none⟩ = some (.int .i64 w) := by have := hcell' 0 _ rfl; rwa [Nat.mul_one, Nat.add_zero] at this
        have hbs := hws.low hb
        have ht : ((i : Int) * 7).tmod l.length = ((i * 7 % l.length : Nat) : Int) := by
          rw [Int.tmod_eq_emod_of_nonneg (by omega), Int.natCast_emod]; rfl
        have hjlt' : ((i * 7 % l.length : Nat) : Int) < l.length := Int.ofNat_lt.2 hjlt
        have hne : ¬ (l.length : Int) = 0 := by omega
        simp -implicitDefEqProofs (disch := first | omega | (simp only [St.set_n, St.up_n, List.length_cons, List.length_nil]; omega)) only [go_sem, Nat.reduceAdd, Nat.reduceMul, Nat.reduceSub, Int.reduceAdd, Int.reduceMul, Int.reduceSub, Int.reduceNeg, Int.reduceToNat, h0, h3, h4, hlt, h300, hbs, hb, c0]
        refine callF_of (lock_owner hc rfl ?_)
        simp -implicitDefEqProofs (disch := first | omega | (simp only [St.set_n, St.up_n, List.length_cons, List.length_nil]; omega)) only [go_sem, Nat.reduceAdd, Nat.reduceMul, Nat.reduceSub, Int.reduceAdd, Int.reduceMul, Int.reduceSub, Int.reduceNeg, Int.reduceToNat, h0, h3, h4, hlt, h300, hbs, hb, c0]
        refine callF_of (lock_try (c := #[.int .i64 x, .int .i64 n, .int .i64 c]) (ty := 48) (x := x) (n := n) (k := c) hc rfl rfl rfl fun j hj => ?_)
        obtain ⟨n', k', e1⟩ := tryC_lit x n c u
        rw [e1]
        unfold leftAs
        have hE := lawOne x u w
        have hs1 : ∀ k' , (∀ c x, c < σ.n → σ.m c = some x → (s.set k (.raw k')).m c = some x) := fun k' d y hd hy => by
          have := hσ d y hd hy
          simp -implicitDefEqProofs (disch := first | omega | (simp only [St.set_n, St.up_n, List.length_cons, List.length_nil]; omega)) only [go_sem, Nat.reduceAdd, Nat.reduceMul, Nat.reduceSub, Int.reduceAdd, Int.reduceMul, Int.reduceSub, Int.reduceNeg, Int.reduceToNat, this]
        have hcase : (u < 1 ∧ tryB x u = false ∧ tryV x u = x) ∨ (¬ u < 1 ∧ x = 0 ∧ tryB x u = true ∧ tryV x u = u) ∨ (¬ u < 1 ∧ ¬ x = 0 ∧ tryB x u = false ∧ tryV x u = x) := by
          unfold tryB tryV
          by_cases hu : u < 1
          · simp [hu]
          · by_cases hx : x = 0 <;> simp [hu, hx]
        rcases hcase with ⟨hu, hb1, hv1⟩ | ⟨hu, hx, hb1, hv1⟩ | ⟨hu, hx, hb1, hv1⟩
        · have hu' : ¬ 1 ≤ u := by omega
          rw [hv1] at hE ⊢
          by_cases hx : x = 0
          · subst hx
            simp -implicitDefEqProofs (disch := first | omega | (simp only [St.set_n, St.up_n, List.length_cons, List.length_nil]; omega)) only [go_sem, Nat.reduceAdd, Nat.reduceMul, Nat.reduceSub, Int.reduceAdd, Int.reduceMul, Int.reduceSub, Int.reduceNeg, Int.reduceToNat, h0, h3, h4, hlt, hbs, hb, c0, hu', hb1]
            refine effD_quiet (.int .i64 0) (fun m hm => ?_) ?_
            · simp -implicitDefEqProofs (disch := first | omega | (simp only [St.set_n, St.up_n, List.length_cons, List.length_nil]; omega)) only [go_sem, Nat.reduceAdd, Nat.reduceMul, Nat.reduceSub, Int.reduceAdd, Int.reduceMul, Int.reduceSub, Int.reduceNeg, Int.reduceToNat, h0, h3, h4]
              exact lock_owner (c := #[.int .i64 0, .int .i64 n', .int .i64 k']) (ty := 48) (by simp -implicitDefEqProofs (disch := first | omega | (simp only [St.set_n, St.up_n, List.length_cons, List.length_nil]; omega)) only [go_sem, Nat.reduceAdd, Nat.reduceMul, Nat.reduceSub, Int.reduceAdd, Int.reduceMul, Int.reduceSub, Int.reduceNeg, Int.reduceToNat] <;> rfl) rfl ⟨rfl, m, Nat.le_refl _, rfl⟩
            simp -implicitDefEqProofs (disch := first | omega | (simp only [St.set_n, St.up_n, List.length_cons, List.length_nil]; omega)) only [go_sem, Nat.reduceAdd, Nat.reduceMul, Nat.reduceSub, Int.reduceAdd, Int.reduceMul, Int.reduceSub, Int.reduceNeg, Int.reduceToNat, h0, h3, h4, hlt, hbs, hb, c0, hu', hb1]
            intro j2 hj2
            simp -implicitDefEqProofs (disch := first | omega | (simp only [St.set_n, St.up_n, List.length_cons, List.length_nil]; omega)) only [go_sem, Nat.reduceAdd, Nat.reduceMul, Nat.reduceSub, Int.reduceAdd, Int.reduceMul, Int.reduceSub, Int.reduceNeg, Int.reduceToNat, h0, h3, h4, hlt, hbs, hb, c1, ht, hjlt', hne]
            refine callF_of (lock_free (c := #[.int .i64 0, .int .i64 n', .int .i64 k']) (ty := 48) (x := 0) (n := n') (by simp -implicitDefEqProofs (disch := first | omega | (simp only [St.set_n, St.up_n, List.length_cons, List.length_nil]; omega)) only [go_sem, Nat.reduceAdd, Nat.reduceMul, Nat.reduceSub, Int.reduceAdd, Int.reduceMul, Int.reduceSub, Int.reduceNeg, Int.reduceToNat] <;> rfl) rfl rfl fun j3 hj3 => ?_)
            obtain ⟨n2, e2⟩ := freeC_lit 0 n' k' w
            rw [e2]
            unfold leftAs
            simp -implicitDefEqProofs (disch := first | omega | (simp only [St.set_n, St.up_n, List.length_cons, List.length_nil]; omega)) only [go_sem, Nat.reduceAdd, Nat.reduceMul, Nat.reduceSub, Int.reduceAdd, Int.reduceMul, Int.reduceSub, Int.reduceNeg, Int.reduceToNat, h0, h3, h4, hlt, hbs, hb, hu', hb1]
            refine callF_of (lock_owner (c := #[.int .i64 (freeV 0 w), .int .i64 n2, .int .i64 k']) (ty := 48) (x := freeV 0 w) (by simp -implicitDefEqProofs (disch := first | omega | (simp only [St.set_n, St.up_n, List.length_cons, List.length_nil]; omega)) only [go_sem, Nat.reduceAdd, Nat.reduceMul, Nat.reduceSub, Int.reduceAdd, Int.reduceMul, Int.reduceSub, Int.reduceNeg, Int.reduceToNat] <;> rfl) rfl ?_)
            simp -implicitDefEqProofs (disch := first | omega | (simp only [St.set_n, St.up_n, List.length_cons, List.length_nil]; omega)) only [go_sem, Nat.reduceAdd, Nat.reduceMul, Nat.reduceSub, Int.reduceAdd, Int.reduceMul, Int.reduceSub, Int.reduceNeg, Int.reduceToNat, h0, h3, h4, hlt, hbs, hb, hu', hb1]
            by_cases hz : freeV 0 w = 0
            · have hE2 : ¬ freeE 0 w = 0 := fun h => by have := (hE.1 h).2; simp [hb1] at this
              simp -implicitDefEqProofs (disch := first | omega | (simp only [St.set_n, St.up_n, List.length_cons, List.length_nil]; omega)) only [go_sem, Nat.reduceAdd, Nat.reduceMul, Nat.reduceSub, Int.reduceAdd, Int.reduceMul, Int.reduceSub, Int.reduceNeg, Int.reduceToNat, h0, h3, h4, hlt, hbs, hb, hu', hb1, hz, hE2]
              refine ⟨l.length - (i + 1), by omega, i + 1, freeV 0 w, n2, k', rfl, by omega, ?_⟩
              simp -implicitDefEqProofs (disch := first | omega | (simp only [St.set_n, St.up_n, List.length_cons, List.length_nil]; omega)) only [go_sem, Nat.reduceAdd, Nat.reduceMul, Nat.reduceSub, Int.reduceAdd, Int.reduceMul, Int.reduceSub, Int.reduceNeg, Int.reduceToNat, h0, h3, h4, hlt, hbs, hb, hd]
              simp only [Int.natCast_add, Int.cast_ofNat_Int, true_and, hz]
              exact ⟨hs1 _, (by (try simp only [St.up_n, St.set_n, leftAs] at *); omega)⟩
            · have hE2 : ¬ freeE 0 w = 0 := fun h => hz (hE.1 h).1
              simp -implicitDefEqProofs (disch := first | omega | (simp only [St.set_n, St.up_n, List.length_cons, List.length_nil]; omega)) only [go_sem, Nat.reduceAdd, Nat.reduceMul, Nat.reduceSub, Int.reduceAdd, Int.reduceMul, Int.reduceSub, Int.reduceNeg, Int.reduceToNat, h0, h3, h4, hlt, hbs, hb, hu', hb1, hz, hE2]
              refine ⟨l.length - (i + 1), by omega, i + 1, freeV 0 w, n2, k', rfl, by omega, ?_⟩
              simp -implicitDefEqProofs (disch := first | omega | (simp only [St.set_n, St.up_n, List.length_cons, List.length_nil]; omega)) only [go_sem, Nat.reduceAdd, Nat.reduceMul, Nat.reduceSub, Int.reduceAdd, Int.reduceMul, Int.reduceSub, Int.reduceNeg, Int.reduceToNat, h0, h3, h4, hlt, hbs, hb, hd]
              simp only [Int.natCast_add, Int.cast_ofNat_Int, true_and]
              exact ⟨hs1 _, (by (try simp only [St.up_n, St.set_n, leftAs] at *); omega)⟩
          · simp -implicitDefEqProofs (disch := first | omega | (simp only [St.set_n, St.up_n, List.length_cons, List.length_nil]; omega)) only [go_sem, Nat.reduceAdd, Nat.reduceMul, Nat.reduceSub, Int.reduceAdd, Int.reduceMul, Int.reduceSub, Int.reduceNeg, Int.reduceToNat, h0, h3, h4, hlt, hbs, hb, c0, hu', hx, hb1]
            refine effD_quiet (.int .i64 x) (fun m hm => ?_) ?_
            · simp -implicitDefEqProofs (disch := first | omega | (simp only [St.set_n, St.up_n, List.length_cons, List.length_nil]; omega)) only [go_sem, Nat.reduceAdd, Nat.reduceMul, Nat.reduceSub, Int.reduceAdd, Int.reduceMul, Int.reduceSub, Int.reduceNeg, Int.reduceToNat, h0, h3, h4]
              exact lock_owner (c := #[.int .i64 x, .int .i64 n', .int .i64 k']) (ty := 48) (by simp -implicitDefEqProofs (disch := first | omega | (simp only [St.set_n, St.up_n, List.length_cons, List.length_nil]; omega)) only [go_sem, Nat.reduceAdd, Nat.reduceMul, Nat.reduceSub, Int.reduceAdd, Int.reduceMul, Int.reduceSub, Int.reduceNeg, Int.reduceToNat] <;> rfl) rfl ⟨rfl, m, Nat.le_refl _, rfl⟩
            simp -implicitDefEqProofs (disch := first | omega | (simp only [St.set_n, St.up_n, List.length_cons, List.length_nil]; omega)) only [go_sem, Nat.reduceAdd, Nat.reduceMul, Nat.reduceSub, Int.reduceAdd, Int.reduceMul, Int.reduceSub, Int.reduceNeg, Int.reduceToNat, h0, h3, h4, hlt, hbs, hb, c0, hu', hx, hb1]
            intro j2 hj2
            simp -implicitDefEqProofs (disch := first | omega | (simp only [St.set_n, St.up_n, List.length_cons, List.length_nil]; omega)) only [go_sem, Nat.reduceAdd, Nat.reduceMul, Nat.reduceSub, Int.reduceAdd, Int.reduceMul, Int.reduceSub, Int.reduceNeg, Int.reduceToNat, h0, h3, h4, hlt, hbs, hb, c1, ht, hjlt', hne]
            refine callF_of (lock_free (c := #[.int .i64 x, .int .i64 n', .int .i64 k']) (ty := 48) (x := x) (n := n') (by simp -implicitDefEqProofs (disch := first | omega | (simp only [St.set_n, St.up_n, List.length_cons, List.length_nil]; omega)) only [go_sem, Nat.reduceAdd, Nat.reduceMul, Nat.reduceSub, Int.reduceAdd, Int.reduceMul, Int.reduceSub, Int.reduceNeg, Int.reduceToNat] <;> rfl) rfl rfl fun j3 hj3 => ?_)
            obtain ⟨n2, e2⟩ := freeC_lit x n' k' w
            rw [e2]
            unfold leftAs
            simp -implicitDefEqProofs (disch := first | omega | (simp only [St.set_n, St.up_n, List.length_cons, List.length_nil]; omega)) only [go_sem, Nat.reduceAdd, Nat.reduceMul, Nat.reduceSub, Int.reduceAdd, Int.reduceMul, Int.reduceSub, Int.reduceNeg, Int.reduceToNat, h0, h3, h4, hlt, hbs, hb, hu', hx, hb1]
            refine callF_of (lock_owner (c := #[.int .i64 (freeV x w), .int .i64 n2, .int .i64 k']) (ty := 48) (x := freeV x w) (by simp -implicitDefEqProofs (disch := first | omega | (simp only [St.set_n, St.up_n, List.length_cons, List.length_nil]; omega)) only [go_sem, Nat.reduceAdd, Nat.reduceMul, Nat.reduceSub, Int.reduceAdd, Int.reduceMul, Int.reduceSub, Int.reduceNeg, Int.reduceToNat] <;> rfl) rfl ?_)
            simp -implicitDefEqProofs (disch := first | omega | (simp only [St.set_n, St.up_n, List.length_cons, List.length_nil]; omega)) only [go_sem, Nat.reduceAdd, Nat.reduceMul, Nat.reduceSub, Int.reduceAdd, Int.reduceMul, Int.reduceSub, Int.reduceNeg, Int.reduceToNat, h0, h3, h4, hlt, hbs, hb, hu', hx, hb1]
            by_cases hz : freeV x w = 0
            · have hE2 : freeE x w = 0 := hE.2 ⟨hz, .inl hx⟩
              simp -implicitDefEqProofs (disch := first | omega | (simp only [St.set_n, St.up_n, List.length_cons, List.length_nil]; omega)) only [go_sem, Nat.reduceAdd, Nat.reduceMul, Nat.reduceSub, Int.reduceAdd, Int.reduceMul, Int.reduceSub, Int.reduceNeg, Int.reduceToNat, h0, h3, h4, hlt, hbs, hb, hu', hx, hb1, hz, hE2]
              refine ⟨l.length - (i + 1), by omega, i + 1, freeV x w, n2, k', rfl, by omega, ?_⟩
              simp -implicitDefEqProofs (disch := first | omega | (simp only [St.set_n, St.up_n, List.length_cons, List.length_nil]; omega)) only [go_sem, Nat.reduceAdd, Nat.reduceMul, Nat.reduceSub, Int.reduceAdd, Int.reduceMul, Int.reduceSub, Int.reduceNeg, Int.reduceToNat, h0, h3, h4, hlt, hbs, hb, hd]
              simp only [Int.natCast_add, Int.cast_ofNat_Int, true_and, hz]
              exact ⟨hs1 _, (by (try simp only [St.up_n, St.set_n, leftAs] at *); omega)⟩
            · have hE2 : ¬ freeE x w = 0 := fun h => hz (hE.1 h).1
              simp -implicitDefEqProofs (disch := first | omega | (simp only [St.set_n, St.up_n, List.length_cons, List.length_nil]; omega)) only [go_sem, Nat.reduceAdd, Nat.reduceMul, Nat.reduceSub, Int.reduceAdd, Int.reduceMul, Int.reduceSub, Int.reduceNeg, Int.reduceToNat, h0, h3, h4, hlt, hbs, hb, hu', hx, hb1, hz, hE2]
              refine ⟨l.length - (i + 1), by omega, i + 1, freeV x w, n2, k', rfl, by omega, ?_⟩
              simp -implicitDefEqProofs (disch := first | omega | (simp only [St.set_n, St.up_n, List.length_cons, List.length_nil]; omega)) only [go_sem, Nat.reduceAdd, Nat.reduceMul, Nat.reduceSub, Int.reduceAdd, Int.reduceMul, Int.reduceSub, Int.reduceNeg, Int.reduceToNat, h0, h3, h4, hlt, hbs, hb, hd]
              simp only [Int.natCast_add, Int.cast_ofNat_Int, true_and]
              exact ⟨hs1 _, (by (try simp only [St.up_n, St.set_n, leftAs] at *); omega)⟩
        · have hu' : 1 ≤ u := by omega
          have hu0 : ¬ u = 0 := by omega
          rw [hv1] at hE ⊢
          subst hx
          simp -implicitDefEqProofs (disch := first | omega | (simp only [St.set_n, St.up_n, List.length_cons, List.length_nil]; omega)) only [go_sem, Nat.reduceAdd, Nat.reduceMul, Nat.reduceSub, Int.reduceAdd, Int.reduceMul, Int.reduceSub, Int.reduceNeg, Int.reduceToNat, h0, h3, h4, hlt, hbs, hb, c0, hu', hu0, hb1]
          refine effD_quiet (.int .i64 u) (fun m hm => ?_) ?_
          · simp -implicitDefEqProofs (disch := first | omega | (simp only [St.set_n, St.up_n, List.length_cons, List.length_nil]; omega)) only [go_sem, Nat.reduceAdd, Nat.reduceMul, Nat.reduceSub, Int.reduceAdd, Int.reduceMul, Int.reduceSub, Int.reduceNeg, Int.reduceToNat, h0, h3, h4]
            exact lock_owner (c := #[.int .i64 u, .int .i64 n', .int .i64 k']) (ty := 48) (by simp -implicitDefEqProofs (disch := first | omega | (simp only [St.set_n, St.up_n, List.length_cons, List.length_nil]; omega)) only [go_sem, Nat.reduceAdd, Nat.reduceMul, Nat.reduceSub, Int.reduceAdd, Int.reduceMul, Int.reduceSub, Int.reduceNeg, Int.reduceToNat] <;> rfl) rfl ⟨rfl, m, Nat.le_refl _, rfl⟩
          simp -implicitDefEqProofs (disch := first | omega | (simp only [St.set_n, St.up_n, List.length_cons, List.length_nil]; omega)) only [go_sem, Nat.reduceAdd, Nat.reduceMul, Nat.reduceSub, Int.reduceAdd, Int.reduceMul, Int.reduceSub, Int.reduceNeg, Int.reduceToNat, h0, h3, h4, hlt, hbs, hb, c0, hu', hu0, hb1]
          intro j2 hj2
          simp -implicitDefEqProofs (disch := first | omega | (simp only [St.set_n, St.up_n, List.length_cons, List.length_nil]; omega)) only [go_sem, Nat.reduceAdd, Nat.reduceMul, Nat.reduceSub, Int.reduceAdd, Int.reduceMul, Int.reduceSub, Int.reduceNeg, Int.reduceToNat, h0, h3, h4, hlt, hbs, hb, c1, ht, hjlt', hne]
          refine callF_of (lock_free (c := #[.int .i64 u, .int .i64 n', .int .i64 k']) (ty := 48) (x := u) (n := n') (by simp -implicitDefEqProofs (disch := first | omega | (simp only [St.set_n, St.up_n, List.length_cons, List.length_nil]; omega)) only [go_sem, Nat.reduceAdd, Nat.reduceMul, Nat.reduceSub, Int.reduceAdd, Int.reduceMul, Int.reduceSub, Int.reduceNeg, Int.reduceToNat] <;> rfl) rfl rfl fun j3 hj3 => ?_)
          obtain ⟨n2, e2⟩ := freeC_lit u n' k' w
          rw [e2]
          unfold leftAs
          simp -implicitDefEqProofs (disch := first | omega | (simp only [St.set_n, St.up_n, List.length_cons, List.length_nil]; omega)) only [go_sem, Nat.reduceAdd, Nat.reduceMul, Nat.reduceSub, Int.reduceAdd, Int.reduceMul, Int.reduceSub, Int.reduceNeg, Int.reduceToNat, h0, h3, h4, hlt, hbs, hb, hu', hu0, hb1]
          refine callF_of (lock_owner (c := #[.int .i64 (freeV u w), .int .i64 n2, .int .i64 k']) (ty := 48) (x := freeV u w) (by simp -implicitDefEqProofs (disch := first | omega | (simp only [St.set_n, St.up_n, List.length_cons, List.length_nil]; omega)) only [go_sem, Nat.reduceAdd, Nat.reduceMul, Nat.reduceSub, Int.reduceAdd, Int.reduceMul, Int.reduceSub, Int.reduceNeg, Int.reduceToNat] <;> rfl) rfl ?_)
          simp -implicitDefEqProofs (disch := first | omega | (simp only [St.set_n, St.up_n, List.length_cons, List.length_nil]; omega)) only [go_sem, Nat.reduceAdd, Nat.reduceMul, Nat.reduceSub, Int.reduceAdd, Int.reduceMul, Int.reduceSub, Int.reduceNeg, Int.reduceToNat, h0, h3, h4, hlt, hbs, hb, hu', hu0, hb1]
          by_cases hz : freeV u w = 0
          · have hE2 : freeE u w = 0 := hE.2 ⟨hz, .inr hb1⟩
            simp -implicitDefEqProofs (disch := first | omega | (simp only [St.set_n, St.up_n, List.length_cons, List.length_nil]; omega)) only [go_sem, Nat.reduceAdd, Nat.reduceMul, Nat.reduceSub, Int.reduceAdd, Int.reduceMul, Int.reduceSub, Int.reduceNeg, Int.reduceToNat, h0, h3, h4, hlt, hbs, hb, hu', hu0, hb1, hz, hE2]
            refine ⟨l.length - (i + 1), by omega, i + 1, freeV u w, n2, k', rfl, by omega, ?_⟩
            simp -implicitDefEqProofs (disch := first | omega | (simp only [St.set_n, St.up_n, List.length_cons, List.length_nil]; omega)) only [go_sem, Nat.reduceAdd, Nat.reduceMul, Nat.reduceSub, Int.reduceAdd, Int.reduceMul, Int.reduceSub, Int.reduceNeg, Int.reduceToNat, h0, h3, h4, hlt, hbs, hb, hd]
            simp only [Int.natCast_add, Int.cast_ofNat_Int, true_and, hz]
            exact ⟨hs1 _, (by (try simp only [St.up_n, St.set_n, leftAs] at *); omega)⟩
          · have hE2 : ¬ freeE u w = 0 := fun h => hz (hE.1 h).1
            simp -implicitDefEqProofs (disch := first | omega | (simp only [St.set_n, St.up_n, List.length_cons, List.length_nil]; omega)) only [go_sem, Nat.reduceAdd, Nat.reduceMul, Nat.reduceSub, Int.reduceAdd, Int.reduceMul, Int.reduceSub, Int.reduceNeg, Int.reduceToNat, h0, h3, h4, hlt, hbs, hb, hu', hu0, hb1, hz, hE2]
            refine ⟨l.length - (i + 1), by omega, i + 1, freeV u w, n2, k', rfl, by omega, ?_⟩
            simp -implicitDefEqProofs (disch := first | omega | (simp only [St.set_n, St.up_n, List.length_cons, List.length_nil]; omega)) only [go_sem, Nat.reduceAdd, Nat.reduceMul, Nat.reduceSub, Int.reduceAdd, Int.reduceMul, Int.reduceSub, Int.reduceNeg, Int.reduceToNat, h0, h3, h4, hlt, hbs, hb, hd]
            simp only [Int.natCast_add, Int.cast_ofNat_Int, true_and]
            exact ⟨hs1 _, (by (try simp only [St.up_n, St.set_n, leftAs] at *); omega)⟩
        · have hu' : 1 ≤ u := by omega
          rw [hv1] at hE ⊢
          simp -implicitDefEqProofs (disch := first | omega | (simp only [St.set_n, St.up_n, List.length_cons, List.length_nil]; omega)) only [go_sem, Nat.reduceAdd, Nat.reduceMul, Nat.reduceSub, Int.reduceAdd, Int.reduceMul, Int.reduceSub, Int.reduceNeg, Int.reduceToNat, h0, h3, h4, hlt, hbs, hb, c0, hu', hx, hb1]
          refine effD_quiet (.int .i64 x) (fun m hm => ?_) ?_
          · simp -implicitDefEqProofs (disch := first | omega | (simp only [St.set_n, St.up_n, List.length_cons, List.length_nil]; omega)) only [go_sem, Nat.reduceAdd, Nat.reduceMul, Nat.reduceSub, Int.reduceAdd, Int.reduceMul, Int.reduceSub, Int.reduceNeg, Int.reduceToNat, h0, h3, h4]
            exact lock_owner (c := #[.int .i64 x, .int .i64 n', .int .i64 k']) (ty := 48) (by simp -implicitDefEqProofs (disch := first | omega | (simp only [St.set_n, St.up_n, List.length_cons, List.length_nil]; omega)) only [go_sem, Nat.reduceAdd, Nat.reduceMul, Nat.reduceSub, Int.reduceAdd, Int.reduceMul, Int.reduceSub, Int.reduceNeg, Int.reduceToNat] <;> rfl) rfl ⟨rfl, m, Nat.le_refl _, rfl⟩
          simp -implicitDefEqProofs (disch := first | omega | (simp only [St.set_n, St.up_n, List.length_cons, List.length_nil]; omega)) only [go_sem, Nat.reduceAdd, Nat.reduceMul, Nat.reduceSub, Int.reduceAdd, Int.reduceMul, Int.reduceSub, Int.reduceNeg, Int.reduceToNat, h0, h3, h4, hlt, hbs, hb, c0, hu', hx, hb1]
          intro j2 hj2
          simp -implicitDefEqProofs (disch := first | omega | (simp only [St.set_n, St.up_n, List.length_cons, List.length_nil]; omega)) only [go_sem, Nat.reduceAdd, Nat.reduceMul, Nat.reduceSub, Int.reduceAdd, Int.reduceMul, Int.reduceSub, Int.reduceNeg, Int.reduceToNat, h0, h3, h4, hlt, hbs, hb, c1, ht, hjlt', hne]
          refine callF_of (lock_free (c := #[.int .i64 x, .int .i64 n', .int .i64 k']) (ty := 48) (x := x) (n := n') (by simp -implicitDefEqProofs (disch := first | omega | (simp only [St.set_n, St.up_n, List.length_cons, List.length_nil]; omega)) only [go_sem, Nat.reduceAdd, Nat.reduceMul, Nat.reduceSub, Int.reduceAdd, Int.reduceMul, Int.reduceSub, Int.reduceNeg, Int.reduceToNat] <;> rfl) rfl rfl fun j3 hj3 => ?_)
          obtain ⟨n2, e2⟩ := freeC_lit x n' k' w
          rw [e2]
          unfold leftAs
          simp -implicitDefEqProofs (disch := first | omega | (simp only [St.set_n, St.up_n, List.length_cons, List.length_nil]; omega)) only [go_sem, Nat.reduceAdd, Nat.reduceMul, Nat.reduceSub, Int.reduceAdd, Int.reduceMul, Int.reduceSub, Int.reduceNeg, Int.reduceToNat, h0, h3, h4, hlt, hbs, hb, hu', hx, hb1]
          refine callF_of (lock_owner (c := #[.int .i64 (freeV x w), .int .i64 n2, .int .i64 k']) (ty := 48) (x := freeV x w) (by simp -implicitDefEqProofs (disch := first | omega | (simp only [St.set_n, St.up_n, List.length_cons, List.length_nil]; omega)) only [go_sem, Nat.reduceAdd, Nat.reduceMul, Nat.reduceSub, Int.reduceAdd, Int.reduceMul, Int.reduceSub, Int.reduceNeg, Int.reduceToNat] <;> rfl) rfl ?_)
          simp -implicitDefEqProofs (disch := first | omega | (simp only [St.set_n, St.up_n, List.length_cons, List.length_nil]; omega)) only [go_sem, Nat.reduceAdd, Nat.reduceMul, Nat.reduceSub, Int.reduceAdd, Int.reduceMul, Int.reduceSub, Int.reduceNeg, Int.reduceToNat, h0, h3, h4, hlt, hbs, hb, hu', hx, hb1]
          by_cases hz : freeV x w = 0
          · have hE2 : freeE x w = 0 := hE.2 ⟨hz, .inl hx⟩
            simp -implicitDefEqProofs (disch := first | omega | (simp only [St.set_n, St.up_n, List.length_cons, List.length_nil]; omega)) only [go_sem, Nat.reduceAdd, Nat.reduceMul, Nat.reduceSub, Int.reduceAdd, Int.reduceMul, Int.reduceSub, Int.reduceNeg, Int.reduceToNat, h0, h3, h4, hlt, hbs, hb, hu', hx, hb1, hz, hE2]
            refine ⟨l.length - (i + 1), by omega, i + 1, freeV x w, n2, k', rfl, by omega, ?_⟩
            simp -implicitDefEqProofs (disch := first | omega | (simp only [St.set_n, St.up_n, List.length_cons, List.length_nil]; omega)) only [go_sem, Nat.reduceAdd, Nat.reduceMul, Nat.reduceSub, Int.reduceAdd, Int.reduceMul, Int.reduceSub, Int.reduceNeg, Int.reduceToNat, h0, h3, h4, hlt, hbs, hb, hd]
            simp only [Int.natCast_add, Int.cast_ofNat_Int, true_and, hz]
            exact ⟨hs1 _, (by (try simp only [St.up_n, St.set_n, leftAs] at *); omega)⟩
          · have hE2 : ¬ freeE x w = 0 := fun h => hz (hE.1 h).1
            simp -implicitDefEqProofs (disch := first | omega | (simp only [St.set_n, St.up_n, List.length_cons, List.length_nil]; omega)) only [go_sem, Nat.reduceAdd, Nat.reduceMul, Nat.reduceSub, Int.reduceAdd, Int.reduceMul, Int.reduceSub, Int.reduceNeg, Int.reduceToNat, h0, h3, h4, hlt, hbs, hb, hu', hx, hb1, hz, hE2]
            refine ⟨l.length - (i + 1), by omega, i + 1, freeV x w, n2, k', rfl, by omega, ?_⟩
            simp -implicitDefEqProofs (disch := first | omega | (simp only [St.set_n, St.up_n, List.length_cons, List.length_nil]; omega)) only [go_sem, Nat.reduceAdd, Nat.reduceMul, Nat.reduceSub, Int.reduceAdd, Int.reduceMul, Int.reduceSub, Int.reduceNeg, Int.reduceToNat, h0, h3, h4, hlt, hbs, hb, hd]
            simp only [Int.natCast_add, Int.cast_ofNat_Int, true_and]
            exact ⟨hs1 _, (by (try simp only [St.up_n, St.set_n, leftAs] at *); omega)⟩
      · simp -implicitDefEqProofs (disch := first | omega | (simp only [St.set_n, St.up_n, List.length_cons, List.length_nil]; omega)) only [go_sem, Nat.reduceAdd, Nat.reduceMul, Nat.reduceSub, Int.reduceAdd, Int.reduceMul, Int.reduceSub, Int.reduceNeg, Int.reduceToNat, h0, h3, h4, hlt, h300, hd]
        exact ⟨hσ, hks⟩
    · simp -implicitDefEqProofs (disch := first | omega | (simp only [St.set_n, St.up_n, List.length_cons, List.length_nil]; omega)) only [go_sem, Nat.reduceAdd, Nat.reduceMul, Nat.reduceSub, Int.reduceAdd, Int.reduceMul, Int.reduceSub, Int.reduceNeg, Int.reduceToNat, h0, h3, h4, hlt, hd]
      exact ⟨hσ, hks⟩
  · rintro e s hws ⟨hd, hσ, hks⟩
    simp -implicitDefEqProofs (disch := first | omega | (simp only [St.set_n, St.up_n, List.length_cons, List.length_nil]; omega)) only [go_sem, Nat.reduceAdd, Nat.reduceMul, Nat.reduceSub, Int.reduceAdd, Int.reduceMul, Int.reduceSub, Int.reduceNeg, Int.reduceToNat, hd]
    refine ⟨_, To.same (fun d y h2 h3 => hσ d y h2 h3) hwf, ?_⟩
    exact hK _ (by (try simp only [St.up_n, St.set_n, leftAs] at *); omega)
end
end Go.Proofs.Ytbjgoajdfdonfaa
