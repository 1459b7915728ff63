/- What a ring tells of what it has: contracts, by walks. -/
import Derived.Test.YtbjgoajdfdonfaaNone11
import Derived.Test.YtbjgoajdfdonfaaEngZ
namespace Go.Proofs.Ytbjgoajdfdonfaa
set_option linter.unusedSimpArgs false
set_option linter.unusedVariables false
set_option maxRecDepth 100000
open Go Go.RowKit
section
variable {B : World} {σ : St} {K : Value → St → Prop}

theorem slot_at {L : List Int} {G n i : Nat} (hi : i < L.length) (hL : L.length ≤ n) : slotAt L G n ((G + i) % n) = (L.getD i 0, 2 * ((G + i : Nat) : Int) + 1) := by
  have hd := dist_of (G := G) (n := n) (k := i) (by omega)
  unfold slotAt
  rw [hd, if_pos hi]
structure Al (G i l cb : Nat) (e : Fr) : Prop where
  v0 : e.v 0 = .func (.yield l) #[] #[]
  v1 : e.v 1 = .pointer (some ⟨cb, 0, none⟩)
  v3 : e.v 3 = .int .i64 ((G : Int) + i)
  d : e.d = []
/-- All that is there is told, in its order: 'Y' says what holds when so much was told. -/
theorem ring_told {r b n G l cb : Nat} {L : List Int} {D : Int} (Y : List Int → St → Prop) (h0 : Y [] σ) (hY : ∀ os τ, Y os τ → IsRing τ r b n L G D ∧ τ.m cb = some (.raw (.cells #[.pointer (some ⟨r, 0, none⟩)] 62 (0, 0))))
    (hr : ∀ os x τ, τ.wf B → Y os τ → os.length < L.length → Rd Try.prog B l #[.int .i64 x] τ fun v τ' => v = .bool true ∧ Y (os ++ [x]) τ')
    (hK : ∀ τ, Y L τ → K (.tuple #[]) τ) : Fn Try.prog B 89 #[.func (.yield l) #[] #[], .pointer (some ⟨cb, 0, none⟩)] σ K := by
  refine Fn.of is89 (by simp) fun hwf => ?_
  obtain ⟨hR, hcb⟩ := hY _ _ h0
  have hroot := hR.root
  have hn := hR.pos
  have h1 := hR.full
  have h2 := hR.low
  have h3 := hR.big
  simp only [b89, Try.f89, Option.getD_some]
  simp -implicitDefEqProofs (disch := first | omega | (simp only [St.set_n, St.up_n, List.length_cons, List.length_nil]; omega)) only [go_sem, Nat.reduceAdd, Nat.reduceMul, Nat.reduceSub, Int.reduceAdd, Int.reduceMul, Int.reduceSub, Int.reduceNeg, Int.reduceToNat, hcb, hroot]
  refine loop_rule (fun m e s => ∃ i : Nat, m = L.length - i ∧ i ≤ L.length ∧ Al G i l cb e ∧ Y (L.take i) s) L.length ?_ ?_
  · exact ⟨0, by omega, by omega, ⟨by simp -implicitDefEqProofs (disch := first | omega | (simp only [St.set_n, St.up_n, List.length_cons, List.length_nil]; omega)) only [go_sem, Nat.reduceAdd, Nat.reduceMul, Nat.reduceSub, Int.reduceAdd, Int.reduceMul, Int.reduceSub, Int.reduceNeg, Int.reduceToNat], by simp -implicitDefEqProofs (disch := first | omega | (simp only [St.set_n, St.up_n, List.length_cons, List.length_nil]; omega)) only [go_sem, Nat.reduceAdd, Nat.reduceMul, Nat.reduceSub, Int.reduceAdd, Int.reduceMul, Int.reduceSub, Int.reduceNeg, Int.reduceToNat], by simp -implicitDefEqProofs (disch := first | omega | (simp only [St.set_n, St.up_n, List.length_cons, List.length_nil]; omega)) only [go_sem, Nat.reduceAdd, Nat.reduceMul, Nat.reduceSub, Int.reduceAdd, Int.reduceMul, Int.reduceSub, Int.reduceNeg, Int.reduceToNat]; simp, by simp -implicitDefEqProofs (disch := first | omega | (simp only [St.set_n, St.up_n, List.length_cons, List.length_nil]; omega)) only [go_sem, Nat.reduceAdd, Nat.reduceMul, Nat.reduceSub, Int.reduceAdd, Int.reduceMul, Int.reduceSub, Int.reduceNeg, Int.reduceToNat]⟩, h0⟩
  · rintro m e s hws ⟨i, hm, hi, ⟨q0, q1, q3, hd⟩, hYs⟩
    obtain ⟨hR, hcb⟩ := hY _ _ hYs
    have hroot := hR.root
    have hrow := hR.row
    by_cases hlt : (G : Int) + i < ((G + L.length : Nat) : Int)
    · have hil : i < L.length := by omega
      simp -implicitDefEqProofs (disch := first | omega | (simp only [St.set_n, St.up_n, List.length_cons, List.length_nil]; omega)) only [go_sem, Nat.reduceAdd, Nat.reduceMul, Nat.reduceSub, Int.reduceAdd, Int.reduceMul, Int.reduceSub, Int.reduceNeg, Int.reduceToNat, q0, q1, q3, hcb, hroot, hlt]
      have e1 : (G : Int) + i = ((G + i : Nat) : Int) := by omega
      rw [e1]
      refine callF_of (ring_at hR ?_)
      have hj : (G + i) % n < n := Nat.mod_lt _ hn
      have hs := slots_get (L := L) (G := G) hj
      obtain ⟨c0, c1⟩ := slot_cells hs
      rw [slot_at hil h1] at c0
      simp -implicitDefEqProofs (disch := first | omega | (simp only [St.set_n, St.up_n, List.length_cons, List.length_nil]; omega)) only [go_sem, Nat.reduceAdd, Nat.reduceMul, Nat.reduceSub, Int.reduceAdd, Int.reduceMul, Int.reduceSub, Int.reduceNeg, Int.reduceToNat, q0, q1, q3, hrow, c0]
      refine callR_of (Rd.mono' (hr _ (L.getD i 0) s hws hYs (by simp; omega)) ?_)
      rintro v τ' ⟨rfl, hY'⟩
      simp -implicitDefEqProofs (disch := first | omega | (simp only [St.set_n, St.up_n, List.length_cons, List.length_nil]; omega)) only [go_sem, Nat.reduceAdd, Nat.reduceMul, Nat.reduceSub, Int.reduceAdd, Int.reduceMul, Int.reduceSub, Int.reduceNeg, Int.reduceToNat, q0, q1, q3]
      have et : L.take i ++ [L.getD i 0] = L.take (i + 1) := by
        rw [List.take_add_one, List.getD_eq_getElem?_getD, List.getElem?_eq_getElem hil]; rfl
      rw [et] at hY'
      exact ⟨L.length - (i + 1), by omega, i + 1, rfl, by omega, ⟨by simp -implicitDefEqProofs (disch := first | omega | (simp only [St.set_n, St.up_n, List.length_cons, List.length_nil]; omega)) only [go_sem, Nat.reduceAdd, Nat.reduceMul, Nat.reduceSub, Int.reduceAdd, Int.reduceMul, Int.reduceSub, Int.reduceNeg, Int.reduceToNat, q0], by simp -implicitDefEqProofs (disch := first | omega | (simp only [St.set_n, St.up_n, List.length_cons, List.length_nil]; omega)) only [go_sem, Nat.reduceAdd, Nat.reduceMul, Nat.reduceSub, Int.reduceAdd, Int.reduceMul, Int.reduceSub, Int.reduceNeg, Int.reduceToNat, q1], by simp -implicitDefEqProofs (disch := first | omega | (simp only [St.set_n, St.up_n, List.length_cons, List.length_nil]; omega)) only [go_sem, Nat.reduceAdd, Nat.reduceMul, Nat.reduceSub, Int.reduceAdd, Int.reduceMul, Int.reduceSub, Int.reduceNeg, Int.reduceToNat]; simp; omega, by simp -implicitDefEqProofs (disch := first | omega | (simp only [St.set_n, St.up_n, List.length_cons, List.length_nil]; omega)) only [go_sem, Nat.reduceAdd, Nat.reduceMul, Nat.reduceSub, Int.reduceAdd, Int.reduceMul, Int.reduceSub, Int.reduceNeg, Int.reduceToNat, hd]⟩, hY'⟩
    · have : i = L.length := by omega
      subst this
      simp -implicitDefEqProofs (disch := first | omega | (simp only [St.set_n, St.up_n, List.length_cons, List.length_nil]; omega)) only [go_sem, Nat.reduceAdd, Nat.reduceMul, Nat.reduceSub, Int.reduceAdd, Int.reduceMul, Int.reduceSub, Int.reduceNeg, Int.reduceToNat, q0, q1, q3, hcb, hroot, hlt, hd]
      exact hK _ (by simpa using hYs)

theorem frR_v {tm : Array Value} {p t : Nat} {x : Value} (hp : p < tm.size) : (frR tm #[p] #[x]).v t = if t = p then x else tm.getD t undef := by
  simp only [frR]
  have : (#[p].zip #[x]).foldl (fun tmps (y : Nat × Value) => tmps.setIfInBounds y.1 y.2) tm = tm.setIfInBounds p x := by simp [Array.zip]
  show (((#[p].zip #[x]).foldl (fun tmps (y : Nat × Value) => tmps.setIfInBounds y.1 y.2) tm)).getD t undef = _
  rw [this]
  simp only [Array.getD_eq_getD_getElem?]
  by_cases h : t = p
  · subst h; simp [hp]
  · rw [if_neg h, Array.getElem?_setIfInBounds_ne (Ne.symm h)]
structure Yl (σ : St) (r b n G : Nat) (L : List Int) (D : Int) (rec : Loop) (os : List Int) (A : Option Addr) (C : Nat) (τ : St) : Prop where
  ring : IsRing τ r b n L G D
  box : τ.m (σ.n + 2) = some (.raw (.cells #[.pointer (some ⟨r, 0, none⟩)] 62 (0, 0)))
  cell : τ.m (σ.n + 1) = some (.raw (.cells #[.slice A os.length C] 43 (0, 0)))
  res : τ.m σ.n = some (.raw (.cells #[.slice none 0 0] 43 (0, 0)))
  own : Own τ 3 1 (ints os) os.length (.slice A os.length C)
  off : ∀ c, blk (.slice A os.length C) = some c → σ.n + 5 ≤ c
  dfr : τ.m (σ.n + 3) = some (.raw (.deferred (some [])))
  rc : τ.m (σ.n + 4) = some (.raw (.loop rec))
  old : ∀ c x, c < σ.n → σ.m c = some x → τ.m c = some x
  n5 : σ.n + 5 ≤ τ.n
theorem range_rule2 {P : Program} {n : Nat} {g : Operand} {ps : Array Tmp} {x y : Code} {Q : Exit → Fr → St → Prop} {e : Fr} {f : FuncId} {first cap : Array Value} (hg : ev e g = .func (.func f) first cap)
    (h : ∀ rec : Loop, rec.state = .ready → rec.pending = none → rec.params = ps → rec.assign = x → rec.body = y → rec.tmps.size = n → (∀ t, rec.tmps.getD t undef = e.v t) →
      Fn P B f (first ++ #[.func (.yield (σ.n + 1)) #[] #[]] ++ cap) (((σ.set σ.n (.raw (.deferred (some [])))).set (σ.n + 1) (.raw (.loop rec))).up (σ.n + 1 + 1)) fun _ σ' =>
        ∃ rec, σ'.m (σ.n + 1) = some (.raw (.loop rec)) ∧ rec.state ≠ .busy ∧
          pendQ Q rec.pending { e with d := { target := .collected σ.n, args := #[] } :: e.d } (σ'.set (σ.n + 1) (.raw (.loop { rec with state := .exhausted })))) : RangeS P B none n g ps x y Q e σ :=
  range_rule hg fun fn tm h1 h2 => h (recR fn tm ps x y σ.n) rfl rfl rfl rfl rfl h1 h2
theorem isRing_keep {τ : St} {r b n G : Nat} {L : List Int} {D : Int} (h : IsRing σ r b n L G D) (hk : ∀ c x, c = r ∨ c = b → σ.m c = some x → τ.m c = some x) : IsRing τ r b n L G D :=
  ⟨h.ne, h.pos, h.big, h.full, h.low, hk _ _ (.inl rfl) h.root, hk _ _ (.inr rfl) h.row⟩
set_option maxHeartbeats 4000000 in
theorem ring_list {r b n G : Nat} {L : List Int} {D : Int} (hR : IsRing σ r b n L G D)
    (hK : ∀ v τ, Own τ 3 1 (ints L) L.length v → (∀ c, blk v = some c → σ.n ≤ c) → (∀ c x, c < σ.n → σ.m c = some x → τ.m c = some x) → σ.n ≤ τ.n → K v τ) : Fn Try.prog B 58 #[.pointer (some ⟨r, 0, none⟩)] σ K := by
  refine Fn.of is58 (by simp) fun hwf => ?_
  have hrn := (hwf.2 _ _ hR.root).2
  have hbn := (hwf.2 _ _ hR.row).2
  have hfull := hR.full
  have hbig := hR.big
  simp only [b58, Try.f58, Option.getD_some]
  simp -implicitDefEqProofs (disch := first | omega | (simp only [St.set_n, St.up_n, List.length_cons, List.length_nil]; omega)) only [go_sem, Nat.reduceAdd, Nat.reduceMul, Nat.reduceSub, Int.reduceAdd, Int.reduceMul, Int.reduceSub, Int.reduceNeg, Int.reduceToNat]
  refine callF_of (ring_all ?_)
  simp -implicitDefEqProofs (disch := first | omega | (simp only [St.set_n, St.up_n, List.length_cons, List.length_nil]; omega)) only [go_sem, Nat.reduceAdd, Nat.reduceMul, Nat.reduceSub, Int.reduceAdd, Int.reduceMul, Int.reduceSub, Int.reduceNeg, Int.reduceToNat]
  refine range_rule2 (f := 89) (first := #[]) (cap := #[.pointer (some ⟨σ.n + 1 + 1, 0, none⟩)]) (by simp -implicitDefEqProofs (disch := first | omega | (simp only [St.set_n, St.up_n, List.length_cons, List.length_nil]; omega)) only [go_sem, Nat.reduceAdd, Nat.reduceMul, Nat.reduceSub, Int.reduceAdd, Int.reduceMul, Int.reduceSub, Int.reduceNeg, Int.reduceToNat]) fun rec hrs hrp hrps hra hrb hrt hrv => ?_
  simp -implicitDefEqProofs (disch := first | omega | (simp only [St.set_n, St.up_n, List.length_cons, List.length_nil]; omega)) only [go_sem, Nat.reduceAdd, Nat.reduceMul, Nat.reduceSub, Int.reduceAdd, Int.reduceMul, Int.reduceSub, Int.reduceNeg, Int.reduceToNat]
  refine ring_told (r := r) (b := b) (n := n) (G := G) (L := L) (D := D) (fun os τ => ∃ A C, Yl σ r b n G L D rec os A C τ) ⟨none, 0, isRing_keep hR fun c x hc hx => ?_, by simp -implicitDefEqProofs (disch := first | omega | (simp only [St.set_n, St.up_n, List.length_cons, List.length_nil]; omega)) only [go_sem, Nat.reduceAdd, Nat.reduceMul, Nat.reduceSub, Int.reduceAdd, Int.reduceMul, Int.reduceSub, Int.reduceNeg, Int.reduceToNat], by simp -implicitDefEqProofs (disch := first | omega | (simp only [St.set_n, St.up_n, List.length_cons, List.length_nil]; omega)) only [go_sem, Nat.reduceAdd, Nat.reduceMul, Nat.reduceSub, Int.reduceAdd, Int.reduceMul, Int.reduceSub, Int.reduceNeg, Int.reduceToNat], by simp -implicitDefEqProofs (disch := first | omega | (simp only [St.set_n, St.up_n, List.length_cons, List.length_nil]; omega)) only [go_sem, Nat.reduceAdd, Nat.reduceMul, Nat.reduceSub, Int.reduceAdd, Int.reduceMul, Int.reduceSub, Int.reduceNeg, Int.reduceToNat], Own.nil, fun c hc => (by cases hc), by simp -implicitDefEqProofs (disch := first | omega | (simp only [St.set_n, St.up_n, List.length_cons, List.length_nil]; omega)) only [go_sem, Nat.reduceAdd, Nat.reduceMul, Nat.reduceSub, Int.reduceAdd, Int.reduceMul, Int.reduceSub, Int.reduceNeg, Int.reduceToNat], by simp -implicitDefEqProofs (disch := first | omega | (simp only [St.set_n, St.up_n, List.length_cons, List.length_nil]; omega)) only [go_sem, Nat.reduceAdd, Nat.reduceMul, Nat.reduceSub, Int.reduceAdd, Int.reduceMul, Int.reduceSub, Int.reduceNeg, Int.reduceToNat], fun c x hc hx => by simp -implicitDefEqProofs (disch := first | omega | (simp only [St.set_n, St.up_n, List.length_cons, List.length_nil]; omega)) only [go_sem, Nat.reduceAdd, Nat.reduceMul, Nat.reduceSub, Int.reduceAdd, Int.reduceMul, Int.reduceSub, Int.reduceNeg, Int.reduceToNat, hx], by simp -implicitDefEqProofs (disch := first | omega | (simp only [St.set_n, St.up_n, List.length_cons, List.length_nil]; omega)) only [go_sem, Nat.reduceAdd, Nat.reduceMul, Nat.reduceSub, Int.reduceAdd, Int.reduceMul, Int.reduceSub, Int.reduceNeg, Int.reduceToNat]; omega⟩ (fun os τ ⟨A, C, h⟩ => ⟨h.ring, h.box⟩) (fun os x τ hwt ⟨A, C, h⟩ hos => ?_) fun τ ⟨A, C, h⟩ => ?_
  · have := (hwf.2 _ _ hx).2
    simp -implicitDefEqProofs (disch := first | omega | (simp only [St.set_n, St.up_n, List.length_cons, List.length_nil]; omega)) only [go_sem, Nat.reduceAdd, Nat.reduceMul, Nat.reduceSub, Int.reduceAdd, Int.reduceMul, Int.reduceSub, Int.reduceNeg, Int.reduceToNat, hx]
  · obtain ⟨y1, y2, y3, y4, y5, y6, y7, y8, y9, y10⟩ := h
    have hv3 := hrv 3
    have hv2 := hrv 2
    refine Rd.of mix y8 (by rw [hrps]; rfl) hrt (by rw [hra]; kernel_rfl) (by rw [hrb]; kernel_rfl) ?_
    rw [hra, hrb, hrps]
    have hsz12 : 12 < rec.tmps.size := by rw [hrt]; omega
    have f3 : (frR rec.tmps #[12] #[.int .i64 x]).v 3 = .pointer (some ⟨σ.n + 1, 0, none⟩) := by rw [frR_v hsz12, if_neg (by omega), hv3]; simp -implicitDefEqProofs (disch := first | omega | (simp only [St.set_n, St.up_n, List.length_cons, List.length_nil]; omega)) only [go_sem, Nat.reduceAdd, Nat.reduceMul, Nat.reduceSub, Int.reduceAdd, Int.reduceMul, Int.reduceSub, Int.reduceNeg, Int.reduceToNat]
    have f12 : (frR rec.tmps #[12] #[.int .i64 x]).v 12 = .int .i64 x := by rw [frR_v hsz12, if_pos rfl]
    simp -implicitDefEqProofs (disch := first | omega | (simp only [St.set_n, St.up_n, List.length_cons, List.length_nil]; omega)) only [go_sem, Nat.reduceAdd, Nat.reduceMul, Nat.reduceSub, Int.reduceAdd, Int.reduceMul, Int.reduceSub, Int.reduceNeg, Int.reduceToNat, f12]
    refine ⟨rec, y8, hrs, ?_⟩
    simp -implicitDefEqProofs (disch := first | omega | (simp only [St.set_n, St.up_n, List.length_cons, List.length_nil]; omega)) only [go_sem, Nat.reduceAdd, Nat.reduceMul, Nat.reduceSub, Int.reduceAdd, Int.reduceMul, Int.reduceSub, Int.reduceNeg, Int.reduceToNat, f3, f12, y3]
    have hrl := hwt.2 _ _ y8
    have hw0 : (τ.set (σ.n + 4) (.raw (.loop { rec with state := .busy }))).wf B := hwt.set _ ⟨hrl.1, by omega⟩
    have o0 : Own (τ.set (σ.n + 4) (.raw (.loop { rec with state := .busy }))) 3 1 (ints os) os.length (.slice A os.length C) := y5.keepR fun c o hc ho => by
      have := y6 c hc
      simp -implicitDefEqProofs (disch := first | omega | (simp only [St.set_n, St.up_n, List.length_cons, List.length_nil]; omega)) only [go_sem, Nat.reduceAdd, Nat.reduceMul, Nat.reduceSub, Int.reduceAdd, Int.reduceMul, Int.reduceSub, Int.reduceNeg, Int.reduceToNat, ho]
    refine appF_one (s := τ.set (σ.n + 4) (.raw (.loop { rec with state := .busy }))) (sz := 1) (bts := 8) (cs := ints os) (ys := [.int .i64 x]) hw0 o0 se43 kd43 zr3 rfl (by omega) rfl rfl (by omega) fun A' C' t1 hC' o1 hw1 hk1 hm1 hb1 hn1 => ?_
    have hoff : ∀ c, c < σ.n + 5 → blk (.slice A os.length C) ≠ some c := fun c hc e => by have := y6 c e; omega
    have z3 := hm1 (σ.n + 1) (.raw (.cells #[.slice A os.length C] 43 (0, 0))) (by simp -implicitDefEqProofs (disch := first | omega | (simp only [St.set_n, St.up_n, List.length_cons, List.length_nil]; omega)) only [go_sem, Nat.reduceAdd, Nat.reduceMul, Nat.reduceSub, Int.reduceAdd, Int.reduceMul, Int.reduceSub, Int.reduceNeg, Int.reduceToNat, y3]) (hoff _ (by omega))
    simp -implicitDefEqProofs (disch := first | omega | (simp only [St.set_n, St.up_n, List.length_cons, List.length_nil]; omega)) only [go_sem, Nat.reduceAdd, Nat.reduceMul, Nat.reduceSub, Int.reduceAdd, Int.reduceMul, Int.reduceSub, Int.reduceNeg, Int.reduceToNat, f3, f12, z3]
    have hlen : ¬ (2000 : Int) < ((os.length + 1 : Nat) : Int) := by omega
    simp -implicitDefEqProofs (disch := first | omega | (simp only [St.set_n, St.up_n, List.length_cons, List.length_nil]; omega)) only [go_sem, Nat.reduceAdd, Nat.reduceMul, Nat.reduceSub, Int.reduceAdd, Int.reduceMul, Int.reduceSub, Int.reduceNeg, Int.reduceToNat, f3, f12, z3, hlen]
    have z8 := hm1 (σ.n + 4) (.raw (.loop { rec with state := .busy })) (by simp -implicitDefEqProofs (disch := first | omega | (simp only [St.set_n, St.up_n, List.length_cons, List.length_nil]; omega)) only [go_sem, Nat.reduceAdd, Nat.reduceMul, Nat.reduceSub, Int.reduceAdd, Int.reduceMul, Int.reduceSub, Int.reduceNeg, Int.reduceToNat]) (hoff _ (by omega))
    have hrec : ({ rec with state := .ready, pending := none } : Loop) = rec := by cases rec; simp only at hrs hrp; subst hrs hrp; rfl
    refine ⟨{ rec with state := .busy }, by simp -implicitDefEqProofs (disch := first | omega | (simp only [St.set_n, St.up_n, List.length_cons, List.length_nil]; omega)) only [go_sem, Nat.reduceAdd, Nat.reduceMul, Nat.reduceSub, Int.reduceAdd, Int.reduceMul, Int.reduceSub, Int.reduceNeg, Int.reduceToNat, z8], rfl, A', C', ?_⟩
    have fr : ∀ c x, c < σ.n + 4 → c ≠ σ.n + 1 → τ.m c = some x → ((t1.set (σ.n + 1) (.raw (.cells #[.slice A' (os.length + 1) C'] 43 (0, 0)))).set (σ.n + 4) (.raw (.loop { rec with state := .ready, pending := none }))).m c = some x := fun c x hc hc1 hx => by
      have := hm1 c x (by simp -implicitDefEqProofs (disch := first | omega | (simp only [St.set_n, St.up_n, List.length_cons, List.length_nil]; omega)) only [go_sem, Nat.reduceAdd, Nat.reduceMul, Nat.reduceSub, Int.reduceAdd, Int.reduceMul, Int.reduceSub, Int.reduceNeg, Int.reduceToNat, hx]) (hoff c (by omega))
      simp -implicitDefEqProofs (disch := first | omega | (simp only [St.set_n, St.up_n, List.length_cons, List.length_nil]; omega)) only [go_sem, Nat.reduceAdd, Nat.reduceMul, Nat.reduceSub, Int.reduceAdd, Int.reduceMul, Int.reduceSub, Int.reduceNeg, Int.reduceToNat, this]
    have hosl : (os ++ [x]).length = os.length + 1 := by simp
    have hints : ints (os ++ [x]) = ints os ++ [.int .i64 x] := by simp [ints]
    refine ⟨isRing_keep y1 fun c y hc hy => fr c y (by omega) (by omega) hy, fr _ _ (by omega) (by omega) y2, by rw [hosl]; simp -implicitDefEqProofs (disch := first | omega | (simp only [St.set_n, St.up_n, List.length_cons, List.length_nil]; omega)) only [go_sem, Nat.reduceAdd, Nat.reduceMul, Nat.reduceSub, Int.reduceAdd, Int.reduceMul, Int.reduceSub, Int.reduceNeg, Int.reduceToNat], fr _ _ (by omega) (by omega) y4, ?_, fun c hc => ?_, fr _ _ (by omega) (by omega) y7, ?_, fun c y hc hy => fr c y (by omega) (by omega) (y9 c y hc hy), ?_⟩
    · rw [hosl, hints]
      refine o1.keepR fun c o hc ho => ?_
      have : σ.n + 5 ≤ c := by
        rcases hb1 c hc with h | h
        · simp only [St.set_n] at h; omega
        · exact y6 c h
      simp -implicitDefEqProofs (disch := first | omega | (simp only [St.set_n, St.up_n, List.length_cons, List.length_nil]; omega)) only [go_sem, Nat.reduceAdd, Nat.reduceMul, Nat.reduceSub, Int.reduceAdd, Int.reduceMul, Int.reduceSub, Int.reduceNeg, Int.reduceToNat, ho]
    · rw [hosl] at hc
      rcases hb1 c hc with h | h
      · simp only [St.set_n] at h; omega
      · exact y6 c h
    · rw [hrec]; simp -implicitDefEqProofs (disch := first | omega | (simp only [St.set_n, St.up_n, List.length_cons, List.length_nil]; omega)) only [go_sem, Nat.reduceAdd, Nat.reduceMul, Nat.reduceSub, Int.reduceAdd, Int.reduceMul, Int.reduceSub, Int.reduceNeg, Int.reduceToNat]
    · simp only [St.set_n] at *; omega
  · obtain ⟨y1, y2, y3, y4, y5, y6, y7, y8, y9, y10⟩ := h
    refine ⟨rec, y8, by rw [hrs]; simp, ?_⟩
    rw [hrp]
    show pendQ _ none _ _
    unfold pendQ
    simp -implicitDefEqProofs (disch := first | omega | (simp only [St.set_n, St.up_n, List.length_cons, List.length_nil]; omega)) only [go_sem, Nat.reduceAdd, Nat.reduceMul, Nat.reduceSub, Int.reduceAdd, Int.reduceMul, Int.reduceSub, Int.reduceNeg, Int.reduceToNat, y3, y4]
    refine leave_collected (by simp -implicitDefEqProofs (disch := first | omega | (simp only [St.set_n, St.up_n, List.length_cons, List.length_nil]; omega)) only [go_sem, Nat.reduceAdd, Nat.reduceMul, Nat.reduceSub, Int.reduceAdd, Int.reduceMul, Int.reduceSub, Int.reduceNeg, Int.reduceToNat, y7]) ?_
    simp -implicitDefEqProofs (disch := first | omega | (simp only [St.set_n, St.up_n, List.length_cons, List.length_nil]; omega)) only [go_sem, Nat.reduceAdd, Nat.reduceMul, Nat.reduceSub, Int.reduceAdd, Int.reduceMul, Int.reduceSub, Int.reduceNeg, Int.reduceToNat, y3]
    refine hK _ _ (y5.keepR fun c o hc ho => ?_) (fun c hc => by have := y6 c hc; omega) (fun c y hc hy => by have := y9 c y hc hy; simp -implicitDefEqProofs (disch := first | omega | (simp only [St.set_n, St.up_n, List.length_cons, List.length_nil]; omega)) only [go_sem, Nat.reduceAdd, Nat.reduceMul, Nat.reduceSub, Int.reduceAdd, Int.reduceMul, Int.reduceSub, Int.reduceNeg, Int.reduceToNat, this]) (by simp -implicitDefEqProofs (disch := first | omega | (simp only [St.set_n, St.up_n, List.length_cons, List.length_nil]; omega)) only [go_sem, Nat.reduceAdd, Nat.reduceMul, Nat.reduceSub, Int.reduceAdd, Int.reduceMul, Int.reduceSub, Int.reduceNeg, Int.reduceToNat]; omega)
    have := y6 c hc
    simp -implicitDefEqProofs (disch := first | omega | (simp only [St.set_n, St.up_n, List.length_cons, List.length_nil]; omega)) only [go_sem, Nat.reduceAdd, Nat.reduceMul, Nat.reduceSub, Int.reduceAdd, Int.reduceMul, Int.reduceSub, Int.reduceNeg, Int.reduceToNat, ho]
end
end Go.Proofs.Ytbjgoajdfdonfaa
