/- 'LockPlays': the law's own walk. -/
import Derived.Test.YtbjgoajdfdonfaaPlays05
namespace Go.Proofs.Ytbjgoajdfdonfaa
set_option linter.unusedSimpArgs false
set_option linter.unusedVariables false
set_option maxRecDepth 100000
open Go Go.RowKit
section
variable {B : World} {σ : St} {K : Value → St → Prop}

theorem isGroup_keep {τ : St} {g b : Nat} {L : List Lk} (h : IsGroup σ g b L) (hk : ∀ c x, c = g ∨ c = b → σ.m c = some x → τ.m c = some x) : IsGroup τ g b L := by
  rcases h with ⟨rfl, h⟩ | ⟨h, h'⟩
  · exact .inl ⟨rfl, hk _ _ (.inl rfl) h⟩
  · exact .inr ⟨hk _ _ (.inl rfl) h, hk _ _ (.inr rfl) h'⟩
theorem isRef_keep {τ : St} {r o c : Nat} {L : List Lk} (h : IsRef σ r o c L) (hk : ∀ d x, d = r ∨ d = o ∨ d = c → σ.m d = some x → τ.m d = some x) : IsRef τ r o c L := by
  rcases h with ⟨rfl, h⟩ | ⟨h1, h2, h3, h4, h5, h6⟩
  · exact .inl ⟨rfl, hk _ _ (.inl rfl) h⟩
  · exact .inr ⟨h1, h2, h3, hk _ _ (.inl rfl) h4, hk _ _ (.inr (.inl rfl)) h5, hk _ _ (.inr (.inr rfl)) h6⟩
/-- A deed as it lies in memory: a lock's number, an owner, whether it frees. -/
def RLk (x : Int × Int × Bool) (cs : List Value) : Prop := cs = [.int .i64 x.1, .int .i64 x.2.1, .bool x.2.2]

/-- How the blocks of both groups lie. -/
structure Lie (n0 n1 g b r o c : Nat) : Prop where
  gb : g ≠ b
  gl : g < n1
  bl : b < n1
  g0 : n0 ≤ g
  b0 : n0 ≤ b
  rl : n1 ≤ r
  ol : n1 ≤ o
  cl : n1 ≤ c
structure RndL (σ : St) (a : Option Addr) (n cap g b r o c i N : Nat) (L : List Lk) (e : Fr) (s : St) : Prop where
  v1 : e.v 1 = .slice a n cap
  v5 : e.v 5 = .pointer (some ⟨g, 0, none⟩)
  v6 : e.v 6 = .pointer (some ⟨r, 0, none⟩)
  v7 : e.v 7 = .int .i64 i
  d : e.d = []
  grp : IsGroup s g b L
  doc : IsRef s r o c L
  len : L.length = N
  old : ∀ c x, c < σ.n → σ.m c = some x → s.m c = some x
  n : σ.n ≤ s.n
structure MidL (σ : St) (a : Option Addr) (n cap g b r o c i N sn : Nat) (id u : Int) (fr : Bool) (L : List Lk) (e : Fr) (s : St) : Prop where
  v1 : e.v 1 = .slice a n cap
  v5 : e.v 5 = .pointer (some ⟨g, 0, none⟩)
  v6 : e.v 6 = .pointer (some ⟨r, 0, none⟩)
  v7 : e.v 7 = .int .i64 i
  v8 : e.v 8 = .pointer (some ⟨sn, 0, none⟩)
  v9 : e.v 9 = if 0 ≤ id ∧ id < N then .pointer (some ⟨b, id.toNat * 3, none⟩) else .pointer none
  d : e.d = []
  box : s.m sn = some (.raw (.cells #[.int .i64 id, .int .i64 u, .bool fr] 97 (0, 0)))
  grp : IsGroup s g b L
  doc : IsRef s r o c L
  len : L.length = N
  old : ∀ c x, c < σ.n → σ.m c = some x → s.m c = some x
  n : σ.n ≤ s.n
  sn : sn < s.n

set_option maxHeartbeats 4000000 in
theorem plays05 {lim : Int} {l : List (Int × Int × Bool)} {v : Value} (hl : SlR B 3 RLk l v) (hK : ∀ k, σ.n ≤ k → K (.bool true) (σ.up k)) : Fn Try.prog B 12 #[.int .i64 lim, v] σ K := by
  obtain ⟨a, cap, rfl, hlc, hcm, hnil, hat⟩ := hl
  refine Fn.of' is12 (by simp) fun hwf => ?_
  have hB := hwf.1
  simp only [b12, Try.f12, Option.getD_some]
  simp -implicitDefEqProofs (disch := first | omega | (simp only [St.set_n, St.up_n, List.length_cons, List.length_nil]; omega)) only [go_sem, Nat.reduceAdd, Nat.reduceMul, Nat.reduceSub, Int.reduceAdd, Int.reduceMul, Int.reduceSub, Int.reduceNeg, Int.reduceToNat]
  refine callF_of (awake05 fun k hk => ?_)
  simp -implicitDefEqProofs (disch := first | omega | (simp only [St.set_n, St.up_n, List.length_cons, List.length_nil]; omega)) only [go_sem, Nat.reduceAdd, Nat.reduceMul, Nat.reduceSub, Int.reduceAdd, Int.reduceMul, Int.reduceSub, Int.reduceNeg, Int.reduceToNat]
  by_cases h300 : (300 : Int) < l.length
  · simp -implicitDefEqProofs (disch := first | omega | (simp only [St.set_n, St.up_n, List.length_cons, List.length_nil]; omega)) only [go_sem, Nat.reduceAdd, Nat.reduceMul, Nat.reduceSub, Int.reduceAdd, Int.reduceMul, Int.reduceSub, Int.reduceNeg, Int.reduceToNat, h300]
    exact ⟨_, To.same (fun d y h2 h3 => by simp -implicitDefEqProofs (disch := first | omega | (simp only [St.set_n, St.up_n, List.length_cons, List.length_nil]; omega)) only [go_sem, Nat.reduceAdd, Nat.reduceMul, Nat.reduceSub, Int.reduceAdd, Int.reduceMul, Int.reduceSub, Int.reduceNeg, Int.reduceToNat, h3]) hwf, hK _ (by (try simp only [St.up_n, St.set_n, leftAs] at *); omega)⟩
  simp -implicitDefEqProofs (disch := first | omega | (simp only [St.set_n, St.up_n, List.length_cons, List.length_nil]; omega)) only [go_sem, Nat.reduceAdd, Nat.reduceMul, Nat.reduceSub, Int.reduceAdd, Int.reduceMul, Int.reduceSub, Int.reduceNeg, Int.reduceToNat, h300]
  refine callF_wf (locks fun g t1 hg1 hg2 hG ht1 hgk hw1 => ?_)
  simp -implicitDefEqProofs (disch := first | omega | (simp only [St.set_n, St.up_n, List.length_cons, List.length_nil]; omega)) only [go_sem, Nat.reduceAdd, Nat.reduceMul, Nat.reduceSub, Int.reduceAdd, Int.reduceMul, Int.reduceSub, Int.reduceNeg, Int.reduceToNat]
  refine callF_wf (ref_new fun r o c t2 hr1 hr2 hR ht2 hrk hw2 => ?_)
  simp only [St.up_n] at hg1 hgk ht1 hG
  have hN : groupN lim ≤ 1024 := by unfold groupN; split <;> omega
  generalize groupN lim = N at hG hR hgk hrk hN
  have hlie : N = 0 ∨ Lie k t1.n g k r o c := by
    rcases hgk with h | h
    · exact .inl h
    rcases hrk with h' | h'
    · exact .inl h'
    by_cases h0 : N = 0
    · exact .inl h0
    refine .inr ⟨fun e => h e.symm, hg2, ?_, hg1, Nat.le_refl _, hr1, h'.1, h'.2⟩
    rcases hG with ⟨e, _⟩ | ⟨_, h4⟩
    · simp at e; exact absurd e h0
    · exact (hw1.2 _ _ h4).2
  have hG2 : IsGroup t2 g k (List.replicate N (0, 0, 0)) := isGroup_keep hG fun c x hc hx => ht2 c x (hw1.2 _ _ hx).2 hx
  have hlr : (List.replicate N ((0, 0, 0) : Lk)).length = N := by simp
  obtain ⟨A1, C1, A2, C2, hrr⟩ := ref_len hR
  rw [hlr] at hrr
  simp -implicitDefEqProofs (disch := first | omega | (simp only [St.set_n, St.up_n, List.length_cons, List.length_nil]; omega)) only [go_sem, Nat.reduceAdd, Nat.reduceMul, Nat.reduceSub, Int.reduceAdd, Int.reduceMul, Int.reduceSub, Int.reduceNeg, Int.reduceToNat]
  refine effD_quiet (.int .i64 N) (fun m hm => ?_) ?_
  · simp -implicitDefEqProofs (disch := first | omega | (simp only [St.set_n, St.up_n, List.length_cons, List.length_nil]; omega)) only [go_sem, Nat.reduceAdd, Nat.reduceMul, Nat.reduceSub, Int.reduceAdd, Int.reduceMul, Int.reduceSub, Int.reduceNeg, Int.reduceToNat]
    refine group_len (L := List.replicate N (0, 0, 0)) (g := g) (b := k) (isGroup_keep hG2 fun c x _ hx => hx) ⟨by rw [hlr], m, Nat.le_refl _, rfl⟩
  simp -implicitDefEqProofs (disch := first | omega | (simp only [St.set_n, St.up_n, List.length_cons, List.length_nil]; omega)) only [go_sem, Nat.reduceAdd, Nat.reduceMul, Nat.reduceSub, Int.reduceAdd, Int.reduceMul, Int.reduceSub, Int.reduceNeg, Int.reduceToNat, hrr]
  intro k3 hk3
  refine LoopS.of (SemS.loop (fun m e s => ∃ (i : Nat) (L : List Lk), m = l.length - i ∧ i ≤ l.length ∧ RndL σ a l.length cap g k r o c i N L e s) l.length ?_ ?_)
  · refine ⟨0, List.replicate N (0, 0, 0), by omega, by omega, by simp -implicitDefEqProofs (disch := first | omega | (simp only [St.set_n, St.up_n, List.length_cons, List.length_nil]; omega)) only [go_sem, Nat.reduceAdd, Nat.reduceMul, Nat.reduceSub, Int.reduceAdd, Int.reduceMul, Int.reduceSub, Int.reduceNeg, Int.reduceToNat], by simp -implicitDefEqProofs (disch := first | omega | (simp only [St.set_n, St.up_n, List.length_cons, List.length_nil]; omega)) only [go_sem, Nat.reduceAdd, Nat.reduceMul, Nat.reduceSub, Int.reduceAdd, Int.reduceMul, Int.reduceSub, Int.reduceNeg, Int.reduceToNat], by simp -implicitDefEqProofs (disch := first | omega | (simp only [St.set_n, St.up_n, List.length_cons, List.length_nil]; omega)) only [go_sem, Nat.reduceAdd, Nat.reduceMul, Nat.reduceSub, Int.reduceAdd, Int.reduceMul, Int.reduceSub, Int.reduceNeg, Int.reduceToNat], by simp -implicitDefEqProofs (disch := first | omega | (simp only [St.set_n, St.up_n, List.length_cons, List.length_nil]; omega)) only [go_sem, Nat.reduceAdd, Nat.reduceMul, Nat.reduceSub, Int.reduceAdd, Int.reduceMul, Int.reduceSub, Int.reduceNeg, Int.reduceToNat]; rfl, by simp -implicitDefEqProofs (disch := first | omega | (simp only [St.set_n, St.up_n, List.length_cons, List.length_nil]; omega)) only [go_sem, Nat.reduceAdd, Nat.reduceMul, Nat.reduceSub, Int.reduceAdd, Int.reduceMul, Int.reduceSub, Int.reduceNeg, Int.reduceToNat], isGroup_keep hG2 fun c x _ hx => hx, isRef_keep hR fun c x _ hx => hx, hlr, fun d y hd hy => ?_, by simp -implicitDefEqProofs (disch := first | omega | (simp only [St.set_n, St.up_n, List.length_cons, List.length_nil]; omega)) only [go_sem, Nat.reduceAdd, Nat.reduceMul, Nat.reduceSub, Int.reduceAdd, Int.reduceMul, Int.reduceSub, Int.reduceNeg, Int.reduceToNat]; omega⟩
    exact ht2 d y (by omega) (ht1 d y (by omega) (by simp -implicitDefEqProofs (disch := first | omega | (simp only [St.set_n, St.up_n, List.length_cons, List.length_nil]; omega)) only [go_sem, Nat.reduceAdd, Nat.reduceMul, Nat.reduceSub, Int.reduceAdd, Int.reduceMul, Int.reduceSub, Int.reduceNeg, Int.reduceToNat, hy]))
  · rintro m e s hws ⟨i, L, hm, hi, q1, q5, q6, q7, hd, hG, hR, hL, hσ, hsn⟩
    by_cases hlt : (i : Int) < l.length
    · obtain ⟨⟨id, u, fr⟩, hacc⟩ : ∃ x, l[i]? = some x := ⟨l[i]'(by omega), List.getElem?_eq_getElem (by omega)⟩
      obtain ⟨b, o', cs, rfl, hb, hRR, hsz, hcell⟩ := hat i _ hacc
      simp only [RLk] at hRR
      subst hRR
      have c0 : B.cell? ⟨b, o' + i * 3, none⟩ = _ := hcell 0 _ rfl
      have c1 := hcell 1 _ rfl
      have c2 := hcell 2 _ rfl
      have hbs := hws.low hb
      refine SemS.seqw fun _ => ?_
      simp -implicitDefEqProofs (disch := first | omega | (simp only [St.set_n, St.up_n, List.length_cons, List.length_nil]; omega)) only [go_sem, Nat.reduceAdd, Nat.reduceMul, Nat.reduceSub, Int.reduceAdd, Int.reduceMul, Int.reduceSub, Int.reduceNeg, Int.reduceToNat, q1, q5, q6, q7, hlt]
      refine SemS.seqs (SemS.block ?_)
      refine SemS.seqw fun _ => ?_
      simp -implicitDefEqProofs (disch := first | omega | (simp only [St.set_n, St.up_n, List.length_cons, List.length_nil]; omega)) only [go_sem, Nat.reduceAdd, Nat.reduceMul, Nat.reduceSub, Int.reduceAdd, Int.reduceMul, Int.reduceSub, Int.reduceNeg, Int.reduceToNat, q1, q5, q6, q7, hlt, hbs, hb, c0, c1, c2]
      have hfar : N = 0 ∨ (g < s.n ∧ k < s.n ∧ r < s.n ∧ o < s.n ∧ c < s.n) := by
        by_cases h0 : N = 0
        · exact .inl h0
        have hne : L ≠ [] := fun e => by rw [e] at hL; simp at hL; omega
        rcases hG with ⟨e, _⟩ | ⟨e1, e2⟩
        · exact absurd e hne
        rcases hR with ⟨e, _⟩ | ⟨_, _, _, e3, e4, e5⟩
        · exact absurd e hne
        exact .inr ⟨(hws.2 _ _ e1).2, (hws.2 _ _ e2).2, (hws.2 _ _ e3).2, (hws.2 _ _ e4).2, (hws.2 _ _ e5).2⟩
      have hG1 : IsGroup ((s.set s.n (.raw (.cells #[.int .i64 id, .int .i64 u, .bool fr] 97 (0, 0)))).up (s.n + 1)) g k L := isGroup_keep hG fun c x _ hx => by have := (hws.2 _ _ hx).2; simp -implicitDefEqProofs (disch := first | omega | (simp only [St.set_n, St.up_n, List.length_cons, List.length_nil]; omega)) only [go_sem, Nat.reduceAdd, Nat.reduceMul, Nat.reduceSub, Int.reduceAdd, Int.reduceMul, Int.reduceSub, Int.reduceNeg, Int.reduceToNat, hx]
      have hR1 : IsRef ((s.set s.n (.raw (.cells #[.int .i64 id, .int .i64 u, .bool fr] 97 (0, 0)))).up (s.n + 1)) r o c L := isRef_keep hR fun c x _ hx => by have := (hws.2 _ _ hx).2; simp -implicitDefEqProofs (disch := first | omega | (simp only [St.set_n, St.up_n, List.length_cons, List.length_nil]; omega)) only [go_sem, Nat.reduceAdd, Nat.reduceMul, Nat.reduceSub, Int.reduceAdd, Int.reduceMul, Int.reduceSub, Int.reduceNeg, Int.reduceToNat, hx]
      refine SemS.seq (fun e2 s2 => MidL σ (some ⟨b, o', none⟩) l.length cap g k r o c i N s.n id u fr L e2 s2) ?_ ?_
      · refine SemS.wp fun _ => ?_
        simp -implicitDefEqProofs (disch := first | omega | (simp only [St.set_n, St.up_n, List.length_cons, List.length_nil]; omega)) only [go_sem, Nat.reduceAdd, Nat.reduceMul, Nat.reduceSub, Int.reduceAdd, Int.reduceMul, Int.reduceSub, Int.reduceNeg, Int.reduceToNat, q1, q5, q6, q7]
        have key : ∀ w, (w = if 0 ≤ id ∧ id < N then Value.pointer (some ⟨k, id.toNat * 3, none⟩) else .pointer none) → Fn Try.prog B 55 #[.pointer (some ⟨g, 0, none⟩), .int .i64 id] ((s.set s.n (.raw (.cells #[.int .i64 id, .int .i64 u, .bool fr] 97 (0, 0)))).up (s.n + 1)) fun v σ' => v = w ∧ σ' = ((s.set s.n (.raw (.cells #[.int .i64 id, .int .i64 u, .bool fr] 97 (0, 0)))).up (s.n + 1)) := fun w hw => by
          by_cases hin : 0 ≤ id ∧ id < N
          · rw [if_pos hin] at hw
            obtain ⟨j, rfl⟩ : ∃ j : Nat, id = (j : Int) := ⟨id.toNat, by omega⟩
            exact group_at hG1 (by omega) ⟨by rw [hw]; simp, rfl⟩
          · rw [if_neg hin] at hw
            exact group_at_none hG1 (by rw [hL]; exact hin) ⟨hw.symm, rfl⟩
        refine callF_of ((key _ rfl).mono fun v σ' ⟨hv, hσ'⟩ => ?_)
        subst hσ'
        simp -implicitDefEqProofs (disch := first | omega | (simp only [St.set_n, St.up_n, List.length_cons, List.length_nil]; omega)) only [go_sem, Nat.reduceAdd, Nat.reduceMul, Nat.reduceSub, Int.reduceAdd, Int.reduceMul, Int.reduceSub, Int.reduceNeg, Int.reduceToNat, q1, q5, q6, q7]
        exact ⟨_, To.refl _ _, by simp -implicitDefEqProofs (disch := first | omega | (simp only [St.set_n, St.up_n, List.length_cons, List.length_nil]; omega)) only [go_sem, Nat.reduceAdd, Nat.reduceMul, Nat.reduceSub, Int.reduceAdd, Int.reduceMul, Int.reduceSub, Int.reduceNeg, Int.reduceToNat, q1], by simp -implicitDefEqProofs (disch := first | omega | (simp only [St.set_n, St.up_n, List.length_cons, List.length_nil]; omega)) only [go_sem, Nat.reduceAdd, Nat.reduceMul, Nat.reduceSub, Int.reduceAdd, Int.reduceMul, Int.reduceSub, Int.reduceNeg, Int.reduceToNat, q5], by simp -implicitDefEqProofs (disch := first | omega | (simp only [St.set_n, St.up_n, List.length_cons, List.length_nil]; omega)) only [go_sem, Nat.reduceAdd, Nat.reduceMul, Nat.reduceSub, Int.reduceAdd, Int.reduceMul, Int.reduceSub, Int.reduceNeg, Int.reduceToNat, q6], by simp -implicitDefEqProofs (disch := first | omega | (simp only [St.set_n, St.up_n, List.length_cons, List.length_nil]; omega)) only [go_sem, Nat.reduceAdd, Nat.reduceMul, Nat.reduceSub, Int.reduceAdd, Int.reduceMul, Int.reduceSub, Int.reduceNeg, Int.reduceToNat, q7], by simp -implicitDefEqProofs (disch := first | omega | (simp only [St.set_n, St.up_n, List.length_cons, List.length_nil]; omega)) only [go_sem, Nat.reduceAdd, Nat.reduceMul, Nat.reduceSub, Int.reduceAdd, Int.reduceMul, Int.reduceSub, Int.reduceNeg, Int.reduceToNat], by simp -implicitDefEqProofs (disch := first | omega | (simp only [St.set_n, St.up_n, List.length_cons, List.length_nil]; omega)) only [go_sem, Nat.reduceAdd, Nat.reduceMul, Nat.reduceSub, Int.reduceAdd, Int.reduceMul, Int.reduceSub, Int.reduceNeg, Int.reduceToNat, hv], by simp -implicitDefEqProofs (disch := first | omega | (simp only [St.set_n, St.up_n, List.length_cons, List.length_nil]; omega)) only [go_sem, Nat.reduceAdd, Nat.reduceMul, Nat.reduceSub, Int.reduceAdd, Int.reduceMul, Int.reduceSub, Int.reduceNeg, Int.reduceToNat, hd], by simp -implicitDefEqProofs (disch := first | omega | (simp only [St.set_n, St.up_n, List.length_cons, List.length_nil]; omega)) only [go_sem, Nat.reduceAdd, Nat.reduceMul, Nat.reduceSub, Int.reduceAdd, Int.reduceMul, Int.reduceSub, Int.reduceNeg, Int.reduceToNat], hG1, hR1, hL, fun d y hd hy => by have := hσ d y hd hy; simp -implicitDefEqProofs (disch := first | omega | (simp only [St.set_n, St.up_n, List.length_cons, List.length_nil]; omega)) only [go_sem, Nat.reduceAdd, Nat.reduceMul, Nat.reduceSub, Int.reduceAdd, Int.reduceMul, Int.reduceSub, Int.reduceNeg, Int.reduceToNat, this], by simp -implicitDefEqProofs (disch := first | omega | (simp only [St.set_n, St.up_n, List.length_cons, List.length_nil]; omega)) only [go_sem, Nat.reduceAdd, Nat.reduceMul, Nat.reduceSub, Int.reduceAdd, Int.reduceMul, Int.reduceSub, Int.reduceNeg, Int.reduceToNat]; omega, by simp -implicitDefEqProofs (disch := first | omega | (simp only [St.set_n, St.up_n, List.length_cons, List.length_nil]; omega)) only [go_sem, Nat.reduceAdd, Nat.reduceMul, Nat.reduceSub, Int.reduceAdd, Int.reduceMul, Int.reduceSub, Int.reduceNeg, Int.reduceToNat]; omega⟩
      clear hG1 hR1
      rintro e2 s2 hws2 ⟨q1, q5, q6, q7, q8, q9, hd, hbox, hG, hR, hL, hσ, hsn2, hsn3⟩
      by_cases hin : 0 ≤ id ∧ id < N
      · obtain ⟨j, rfl⟩ : ∃ j : Nat, id = (j : Int) := ⟨id.toNat, by omega⟩
        rw [if_pos hin] at q9
        simp only [Int.toNat_natCast] at q9
        have hjN : j < N := by omega
        have hLie : Lie k t1.n g k r o c := hlie.resolve_left (by omega)
        obtain ⟨x, hx⟩ : ∃ x, L[j]? = some x := ⟨L[j]'(by omega), List.getElem?_eq_getElem (by omega)⟩
        have hne : L ≠ [] := fun e => by rw [e] at hx; simp at hx
        refine SemS.seqw fun _ => ?_
        simp -implicitDefEqProofs (disch := first | omega | (simp only [St.set_n, St.up_n, List.length_cons, List.length_nil]; omega)) only [go_sem, Nat.reduceAdd, Nat.reduceMul, Nat.reduceSub, Int.reduceAdd, Int.reduceMul, Int.reduceSub, Int.reduceNeg, Int.reduceToNat, q1, q5, q6, q7, q8, q9, hbox]
        refine callF_of (ref_there hR ?_)
        simp -implicitDefEqProofs (disch := first | omega | (simp only [St.set_n, St.up_n, List.length_cons, List.length_nil]; omega)) only [go_sem, Nat.reduceAdd, Nat.reduceMul, Nat.reduceSub, Int.reduceAdd, Int.reduceMul, Int.reduceSub, Int.reduceNeg, Int.reduceToNat, q1, q5, q6, q7, q8, q9, hbox, hL, hin]
        refine SemS.seq (fun e3 s3 => ∃ L', MidL σ (some ⟨b, o', none⟩) l.length cap g k r o c i N s.n j u fr L' e3 s3) ?_ ?_
        · refine SemS.wp fun _ => ?_
          obtain ⟨hGg, hGk⟩ : s2.m g = some (.raw (.cells #[.slice (some ⟨k, 0, none⟩) L.length L.length] 130 (0, 0))) ∧ s2.m k = some (.raw (.cells (flat fLk L).toArray 48 (0, 0))) := by
            rcases hG with ⟨e, _⟩ | h
            · exact absurd e hne
            · exact h
          obtain ⟨k0, k1, k2⟩ := lk_cells hx
          have l1 := hLie.gb
          have l2 := hLie.gl
          have l3 := hLie.bl
          have l4 := hLie.g0
          have l5 := hLie.b0
          have l6 := hLie.rl
          have l7 := hLie.ol
          have l8 := hLie.cl
          obtain ⟨l9, l10, l11, l12, l13⟩ := hfar.resolve_left (by omega)
          cases fr with
          | true =>
            simp -implicitDefEqProofs (disch := first | omega | (simp only [St.set_n, St.up_n, List.length_cons, List.length_nil]; omega)) only [go_sem, Nat.reduceAdd, Nat.reduceMul, Nat.reduceSub, Int.reduceAdd, Int.reduceMul, Int.reduceSub, Int.reduceNeg, Int.reduceToNat, q1, q5, q6, q7, q8, q9, hbox]
            refine effD_plan [0, 0, 2, 7, 0, 0, 32, 0, 128, 511, 1023] [0, 1, 2, 4, 5, 6, 7, 8, 10] (.eag 0 (.eag 1 (.eagq 2 (.eag 4 (.eag 5 (.eagq 6 (.eag 7 (.eagq 8 (.alt 3 [6, 8] (.alt 9 [] (.eag 10 .fin) .stop) .stop))))))))) (by kernel_rfl) ?_
            simp -implicitDefEqProofs (disch := first | omega | (simp only [St.set_n, St.up_n, List.length_cons, List.length_nil]; omega)) only [go_sem, Nat.reduceAdd, Nat.reduceMul, Nat.reduceSub, Int.reduceAdd, Int.reduceMul, Int.reduceSub, Int.reduceNeg, Int.reduceToNat, q1, q5, q6, q7, q8, q9, hbox]
            refine callF_of (lock_free hGk k0 k1 fun jj hjj => ?_)
            unfold leftAs
            rw [freeC_flat hx]
            simp -implicitDefEqProofs (disch := first | omega | (simp only [St.set_n, St.up_n, List.length_cons, List.length_nil]; omega)) only [go_sem, Nat.reduceAdd, Nat.reduceMul, Nat.reduceSub, Int.reduceAdd, Int.reduceMul, Int.reduceSub, Int.reduceNeg, Int.reduceToNat, q1, q5, q6, q7, q8, q9, hbox]
            have hR2 : IsRef ((s2.set k (.raw (.cells (flat fLk (L.set j (freeT x u))).toArray 48 (0, 0)))).up jj) r o c L := isRef_keep hR fun d y hd hy => by simp -implicitDefEqProofs (disch := first | omega | (simp only [St.set_n, St.up_n, List.length_cons, List.length_nil]; omega)) only [go_sem, Nat.reduceAdd, Nat.reduceMul, Nat.reduceSub, Int.reduceAdd, Int.reduceMul, Int.reduceSub, Int.reduceNeg, Int.reduceToNat, hy]
            try simp -implicitDefEqProofs (disch := first | omega | (simp only [St.set_n, St.up_n, List.length_cons, List.length_nil]; omega)) only [go_sem, Nat.reduceAdd, Nat.reduceMul, Nat.reduceSub, Int.reduceAdd, Int.reduceMul, Int.reduceSub, Int.reduceNeg, Int.reduceToNat, q1, q5, q6, q7, q8, q9, hbox]
            refine callF_of (ref_free hR2 hx fun τ hRτ hnτ hkτ => ?_)
            simp -implicitDefEqProofs (disch := first | omega | (simp only [St.set_n, St.up_n, List.length_cons, List.length_nil]; omega)) only [go_sem, Nat.reduceAdd, Nat.reduceMul, Nat.reduceSub, Int.reduceAdd, Int.reduceMul, Int.reduceSub, Int.reduceNeg, Int.reduceToNat, q1, q5, q6, q7, q8, q9, hbox]
            refine ⟨_, To.refl _ _, L.set j (freeT x u), by simp -implicitDefEqProofs (disch := first | omega | (simp only [St.set_n, St.up_n, List.length_cons, List.length_nil]; omega)) only [go_sem, Nat.reduceAdd, Nat.reduceMul, Nat.reduceSub, Int.reduceAdd, Int.reduceMul, Int.reduceSub, Int.reduceNeg, Int.reduceToNat, q1], by simp -implicitDefEqProofs (disch := first | omega | (simp only [St.set_n, St.up_n, List.length_cons, List.length_nil]; omega)) only [go_sem, Nat.reduceAdd, Nat.reduceMul, Nat.reduceSub, Int.reduceAdd, Int.reduceMul, Int.reduceSub, Int.reduceNeg, Int.reduceToNat, q5], by simp -implicitDefEqProofs (disch := first | omega | (simp only [St.set_n, St.up_n, List.length_cons, List.length_nil]; omega)) only [go_sem, Nat.reduceAdd, Nat.reduceMul, Nat.reduceSub, Int.reduceAdd, Int.reduceMul, Int.reduceSub, Int.reduceNeg, Int.reduceToNat, q6], by simp -implicitDefEqProofs (disch := first | omega | (simp only [St.set_n, St.up_n, List.length_cons, List.length_nil]; omega)) only [go_sem, Nat.reduceAdd, Nat.reduceMul, Nat.reduceSub, Int.reduceAdd, Int.reduceMul, Int.reduceSub, Int.reduceNeg, Int.reduceToNat, q7], by simp -implicitDefEqProofs (disch := first | omega | (simp only [St.set_n, St.up_n, List.length_cons, List.length_nil]; omega)) only [go_sem, Nat.reduceAdd, Nat.reduceMul, Nat.reduceSub, Int.reduceAdd, Int.reduceMul, Int.reduceSub, Int.reduceNeg, Int.reduceToNat, q8], by simp -implicitDefEqProofs (disch := first | omega | (simp only [St.set_n, St.up_n, List.length_cons, List.length_nil]; omega)) only [go_sem, Nat.reduceAdd, Nat.reduceMul, Nat.reduceSub, Int.reduceAdd, Int.reduceMul, Int.reduceSub, Int.reduceNeg, Int.reduceToNat, q9, hin], by simp -implicitDefEqProofs (disch := first | omega | (simp only [St.set_n, St.up_n, List.length_cons, List.length_nil]; omega)) only [go_sem, Nat.reduceAdd, Nat.reduceMul, Nat.reduceSub, Int.reduceAdd, Int.reduceMul, Int.reduceSub, Int.reduceNeg, Int.reduceToNat, hd], ?_, .inr ⟨?_, ?_⟩, hRτ, by simp [hL], fun d y hd hy => ?_, by simp only [St.up_n, St.set_n] at hnτ hjj; omega, by simp only [St.up_n, St.set_n] at hnτ hjj; omega⟩
            · rw [hkτ _ (by omega) (by omega)]; simp -implicitDefEqProofs (disch := first | omega | (simp only [St.set_n, St.up_n, List.length_cons, List.length_nil]; omega)) only [go_sem, Nat.reduceAdd, Nat.reduceMul, Nat.reduceSub, Int.reduceAdd, Int.reduceMul, Int.reduceSub, Int.reduceNeg, Int.reduceToNat, hbox]
            · rw [hkτ _ (by omega) (by omega), List.length_set]; simp -implicitDefEqProofs (disch := first | omega | (simp only [St.set_n, St.up_n, List.length_cons, List.length_nil]; omega)) only [go_sem, Nat.reduceAdd, Nat.reduceMul, Nat.reduceSub, Int.reduceAdd, Int.reduceMul, Int.reduceSub, Int.reduceNeg, Int.reduceToNat, hGg]
            · rw [hkτ _ (by omega) (by omega)]; simp -implicitDefEqProofs (disch := first | omega | (simp only [St.set_n, St.up_n, List.length_cons, List.length_nil]; omega)) only [go_sem, Nat.reduceAdd, Nat.reduceMul, Nat.reduceSub, Int.reduceAdd, Int.reduceMul, Int.reduceSub, Int.reduceNeg, Int.reduceToNat]
            · have := hσ d y hd hy
              rw [hkτ _ (by omega) (by omega)]; simp -implicitDefEqProofs (disch := first | omega | (simp only [St.set_n, St.up_n, List.length_cons, List.length_nil]; omega)) only [go_sem, Nat.reduceAdd, Nat.reduceMul, Nat.reduceSub, Int.reduceAdd, Int.reduceMul, Int.reduceSub, Int.reduceNeg, Int.reduceToNat, this]
          | false =>
            simp -implicitDefEqProofs (disch := first | omega | (simp only [St.set_n, St.up_n, List.length_cons, List.length_nil]; omega)) only [go_sem, Nat.reduceAdd, Nat.reduceMul, Nat.reduceSub, Int.reduceAdd, Int.reduceMul, Int.reduceSub, Int.reduceNeg, Int.reduceToNat, q1, q5, q6, q7, q8, q9, hbox]
            refine effD_plan [0, 0, 2, 7, 0, 0, 32, 0, 128, 511, 1023] [0, 1, 2, 4, 5, 6, 7, 8, 10] (.eag 0 (.eag 1 (.eagq 2 (.eag 4 (.eag 5 (.eagq 6 (.eag 7 (.eagq 8 (.alt 3 [6, 8] (.alt 9 [] (.eag 10 .fin) .stop) .stop))))))))) (by kernel_rfl) ?_
            simp -implicitDefEqProofs (disch := first | omega | (simp only [St.set_n, St.up_n, List.length_cons, List.length_nil]; omega)) only [go_sem, Nat.reduceAdd, Nat.reduceMul, Nat.reduceSub, Int.reduceAdd, Int.reduceMul, Int.reduceSub, Int.reduceNeg, Int.reduceToNat, q1, q5, q6, q7, q8, q9, hbox]
            refine callF_of (lock_try hGk k0 k1 k2 fun jj hjj => ?_)
            unfold leftAs
            rw [tryC_flat hx]
            have hR2 : IsRef ((s2.set k (.raw (.cells (flat fLk (L.set j (tryT x u))).toArray 48 (0, 0)))).up jj) r o c L := isRef_keep hR fun d y hd hy => by simp -implicitDefEqProofs (disch := first | omega | (simp only [St.set_n, St.up_n, List.length_cons, List.length_nil]; omega)) only [go_sem, Nat.reduceAdd, Nat.reduceMul, Nat.reduceSub, Int.reduceAdd, Int.reduceMul, Int.reduceSub, Int.reduceNeg, Int.reduceToNat, hy]
            try simp -implicitDefEqProofs (disch := first | omega | (simp only [St.set_n, St.up_n, List.length_cons, List.length_nil]; omega)) only [go_sem, Nat.reduceAdd, Nat.reduceMul, Nat.reduceSub, Int.reduceAdd, Int.reduceMul, Int.reduceSub, Int.reduceNeg, Int.reduceToNat, q1, q5, q6, q7, q8, q9, hbox]
            refine callF_of (ref_try hR2 hx fun τ hRτ hnτ hkτ => ?_)
            simp -implicitDefEqProofs (disch := first | omega | (simp only [St.set_n, St.up_n, List.length_cons, List.length_nil]; omega)) only [go_sem, Nat.reduceAdd, Nat.reduceMul, Nat.reduceSub, Int.reduceAdd, Int.reduceMul, Int.reduceSub, Int.reduceNeg, Int.reduceToNat, q1, q5, q6, q7, q8, q9, hbox]
            refine ⟨_, To.refl _ _, L.set j (tryT x u), by simp -implicitDefEqProofs (disch := first | omega | (simp only [St.set_n, St.up_n, List.length_cons, List.length_nil]; omega)) only [go_sem, Nat.reduceAdd, Nat.reduceMul, Nat.reduceSub, Int.reduceAdd, Int.reduceMul, Int.reduceSub, Int.reduceNeg, Int.reduceToNat, q1], by simp -implicitDefEqProofs (disch := first | omega | (simp only [St.set_n, St.up_n, List.length_cons, List.length_nil]; omega)) only [go_sem, Nat.reduceAdd, Nat.reduceMul, Nat.reduceSub, Int.reduceAdd, Int.reduceMul, Int.reduceSub, Int.reduceNeg, Int.reduceToNat, q5], by simp -implicitDefEqProofs (disch := first | omega | (simp only [St.set_n, St.up_n, List.length_cons, List.length_nil]; omega)) only [go_sem, Nat.reduceAdd, Nat.reduceMul, Nat.reduceSub, Int.reduceAdd, Int.reduceMul, Int.reduceSub, Int.reduceNeg, Int.reduceToNat, q6], by simp -implicitDefEqProofs (disch := first | omega | (simp only [St.set_n, St.up_n, List.length_cons, List.length_nil]; omega)) only [go_sem, Nat.reduceAdd, Nat.reduceMul, Nat.reduceSub, Int.reduceAdd, Int.reduceMul, Int.reduceSub, Int.reduceNeg, Int.reduceToNat, q7], by simp -implicitDefEqProofs (disch := first | omega | (simp only [St.set_n, St.up_n, List.length_cons, List.length_nil]; omega)) only [go_sem, Nat.reduceAdd, Nat.reduceMul, Nat.reduceSub, Int.reduceAdd, Int.reduceMul, Int.reduceSub, Int.reduceNeg, Int.reduceToNat, q8], by simp -implicitDefEqProofs (disch := first | omega | (simp only [St.set_n, St.up_n, List.length_cons, List.length_nil]; omega)) only [go_sem, Nat.reduceAdd, Nat.reduceMul, Nat.reduceSub, Int.reduceAdd, Int.reduceMul, Int.reduceSub, Int.reduceNeg, Int.reduceToNat, q9, hin], by simp -implicitDefEqProofs (disch := first | omega | (simp only [St.set_n, St.up_n, List.length_cons, List.length_nil]; omega)) only [go_sem, Nat.reduceAdd, Nat.reduceMul, Nat.reduceSub, Int.reduceAdd, Int.reduceMul, Int.reduceSub, Int.reduceNeg, Int.reduceToNat, hd], ?_, .inr ⟨?_, ?_⟩, hRτ, by simp [hL], fun d y hd hy => ?_, by simp only [St.up_n, St.set_n] at hnτ hjj; omega, by simp only [St.up_n, St.set_n] at hnτ hjj; omega⟩
            · rw [hkτ _ (by omega) (by omega)]; simp -implicitDefEqProofs (disch := first | omega | (simp only [St.set_n, St.up_n, List.length_cons, List.length_nil]; omega)) only [go_sem, Nat.reduceAdd, Nat.reduceMul, Nat.reduceSub, Int.reduceAdd, Int.reduceMul, Int.reduceSub, Int.reduceNeg, Int.reduceToNat, hbox]
            · rw [hkτ _ (by omega) (by omega), List.length_set]; simp -implicitDefEqProofs (disch := first | omega | (simp only [St.set_n, St.up_n, List.length_cons, List.length_nil]; omega)) only [go_sem, Nat.reduceAdd, Nat.reduceMul, Nat.reduceSub, Int.reduceAdd, Int.reduceMul, Int.reduceSub, Int.reduceNeg, Int.reduceToNat, hGg]
            · rw [hkτ _ (by omega) (by omega)]; simp -implicitDefEqProofs (disch := first | omega | (simp only [St.set_n, St.up_n, List.length_cons, List.length_nil]; omega)) only [go_sem, Nat.reduceAdd, Nat.reduceMul, Nat.reduceSub, Int.reduceAdd, Int.reduceMul, Int.reduceSub, Int.reduceNeg, Int.reduceToNat]
            · have := hσ d y hd hy
              rw [hkτ _ (by omega) (by omega)]; simp -implicitDefEqProofs (disch := first | omega | (simp only [St.set_n, St.up_n, List.length_cons, List.length_nil]; omega)) only [go_sem, Nat.reduceAdd, Nat.reduceMul, Nat.reduceSub, Int.reduceAdd, Int.reduceMul, Int.reduceSub, Int.reduceNeg, Int.reduceToNat, this]
        · clear hx hR hG hbox hσ q1 q5 q6 q7 q8 q9 hd hL hne
          rintro e3 s3 hws3 ⟨L', q1, q5, q6, q7, q8, q9, hd, hbox, hG, hR, hL, hσ, hsn4, hsn5⟩
          refine SemS.wp fun _ => ?_
          rw [if_pos hin] at q9
          simp only [Int.toNat_natCast] at q9
          obtain ⟨x, hx⟩ : ∃ x, L'[j]? = some x := ⟨L'[j]'(by omega), List.getElem?_eq_getElem (by omega)⟩
          have hne : L' ≠ [] := fun e => by rw [e] at hx; simp at hx
          obtain ⟨hGg, hGk⟩ : s3.m g = some (.raw (.cells #[.slice (some ⟨k, 0, none⟩) L'.length L'.length] 130 (0, 0))) ∧ s3.m k = some (.raw (.cells (flat fLk L').toArray 48 (0, 0))) := by
            rcases hG with ⟨e, _⟩ | h
            · exact absurd e hne
            · exact h
          obtain ⟨hoc, hro, hrc, hRr, hRo, hRc⟩ := hR.resolve_left (fun e => hne e.1)
          obtain ⟨k0, k1, k2⟩ := lk_cells hx
          have hx1 := int_at (f := (·.1)) hx
          have hx2 := int_at (f := (·.2.2)) hx
          have hin2 : (j : Int) < L'.length := by omega
          simp -implicitDefEqProofs (disch := first | omega | (simp only [St.set_n, St.up_n, List.length_cons, List.length_nil]; omega)) only [go_sem, Nat.reduceAdd, Nat.reduceMul, Nat.reduceSub, Int.reduceAdd, Int.reduceMul, Int.reduceSub, Int.reduceNeg, Int.reduceToNat, q1, q5, q6, q7, q8, q9, hbox]
          refine effD_plan [0, 0, 2, 7, 15, 31, 63, 31, 159, 415, 927, 31, 2079, 8095, 16287, 32767, 65535, 131071, 262143, 131071, 655359, 1703935, 3801087, 131071, 8519679, 33161215, 66715647, 134217727, 268435455, 536870911, 1073741823, 2147483647, 2147483647, 6442450943, 17179869183, 2147483647, 2147483647, 70866960383, 274877906943, 549755813887, 1099511627775, 2199023255551] [0, 1, 2, 4, 5, 7, 8, 9, 10, 11, 12, 13, 14, 15, 16, 17, 19, 20, 21, 22, 23, 24, 25, 26, 27, 28, 29, 30, 31, 32, 33, 35, 36, 37, 40, 41] (.eag 0 (.eag 1 (.eagq 2 (.alt 3 [] (.eag 4 (.eag 5 (.eag 7 (.eag 8 (.eag 9 (.eagq 10 (.eag 11 (.eagq 12 (.eag 13 (.eagq 14 (.alt 6 [10, 12, 14] (.eag 15 (.eag 16 (.eag 17 (.eag 19 (.eag 20 (.eag 21 (.eagq 22 (.eag 23 (.eagq 24 (.eag 25 (.eagq 26 (.alt 18 [22, 24, 26] (.eag 27 (.eag 28 (.eag 29 (.eag 30 (.eag 31 (.eag 32 (.eagq 33 (.eag 35 (.eag 36 (.eagq 37 (.alt 34 [37] (.alt 38 [] (.alt 39 [] (.eag 40 (.eag 41 .fin)) .stop) .stop) .stop))))))))))) .stop)))))))))))) .stop))))))))))) .stop)))) (by kernel_rfl) ?_
          simp -implicitDefEqProofs (disch := first | omega | (simp only [St.set_n, St.up_n, List.length_cons, List.length_nil]; omega)) only [go_sem, Nat.reduceAdd, Nat.reduceMul, Nat.reduceSub, Int.reduceAdd, Int.reduceMul, Int.reduceSub, Int.reduceNeg, Int.reduceToNat, q1, q5, q6, q7, q8, q9, hbox]
          refine callF_of (ref_there hR ?_)
          simp -implicitDefEqProofs (disch := first | omega | (simp only [St.set_n, St.up_n, List.length_cons, List.length_nil]; omega)) only [go_sem, Nat.reduceAdd, Nat.reduceMul, Nat.reduceSub, Int.reduceAdd, Int.reduceMul, Int.reduceSub, Int.reduceNeg, Int.reduceToNat, q1, q5, q6, q7, q8, q9, hbox, hL, hin, hRr, hRo, hx1, hin2]
          refine callF_of (lock_owner hGk k0 ?_)
          simp -implicitDefEqProofs (disch := first | omega | (simp only [St.set_n, St.up_n, List.length_cons, List.length_nil]; omega)) only [go_sem, Nat.reduceAdd, Nat.reduceMul, Nat.reduceSub, Int.reduceAdd, Int.reduceMul, Int.reduceSub, Int.reduceNeg, Int.reduceToNat, q1, q5, q6, q7, q8, q9, hbox, hL, hin, hRr, hRo, hRc, hx1, hx2, hin2]
          refine callF_of (lock_count hGk k2 ?_)
          simp -implicitDefEqProofs (disch := first | omega | (simp only [St.set_n, St.up_n, List.length_cons, List.length_nil]; omega)) only [go_sem, Nat.reduceAdd, Nat.reduceMul, Nat.reduceSub, Int.reduceAdd, Int.reduceMul, Int.reduceSub, Int.reduceNeg, Int.reduceToNat, q1, q5, q6, q7, q8, q9, hbox, hL, hin, hRr, hRo, hRc, hx1, hx2, hin2]
          refine callF_wf (group_held hG (by omega) fun w1 τ1 ho1 hb1 hk1 hn1 hwf1 => ?_)
          have hbox1 := hk1 _ _ (by omega) hbox
          have hR1 : IsRef τ1 r o c L' := isRef_keep hR fun d y _ hy => hk1 d y (hws3.2 _ _ hy).2 hy
          simp -implicitDefEqProofs (disch := first | omega | (simp only [St.set_n, St.up_n, List.length_cons, List.length_nil]; omega)) only [go_sem, Nat.reduceAdd, Nat.reduceMul, Nat.reduceSub, Int.reduceAdd, Int.reduceMul, Int.reduceSub, Int.reduceNeg, Int.reduceToNat, q1, q5, q6, q7, q8, q9, hbox1]
          refine callF_wf (ref_held hR1 (by omega) fun w2 τ2 ho2 hb2 hk2 hn2 hwf2 => ?_)
          simp -implicitDefEqProofs (disch := first | omega | (simp only [St.set_n, St.up_n, List.length_cons, List.length_nil]; omega)) only [go_sem, Nat.reduceAdd, Nat.reduceMul, Nat.reduceSub, Int.reduceAdd, Int.reduceMul, Int.reduceSub, Int.reduceNeg, Int.reduceToNat, q1, q5, q6, q7, q8, q9]
          refine callF_of (same_ints (by have := heldTo_len L' u L'.length; unfold held; split <;> simp <;> omega) (ho1.keep fun d y hd hy => hk2 d y (hwf1.2 _ _ hy).2 hy) ho2 ?_)
          simp -implicitDefEqProofs (disch := first | omega | (simp only [St.set_n, St.up_n, List.length_cons, List.length_nil]; omega)) only [go_sem, Nat.reduceAdd, Nat.reduceMul, Nat.reduceSub, Int.reduceAdd, Int.reduceMul, Int.reduceSub, Int.reduceNeg, Int.reduceToNat, q1, q5, q6, q7, q8, q9]
          refine SemS.wp fun _ => ?_
          simp -implicitDefEqProofs (disch := first | omega | (simp only [St.set_n, St.up_n, List.length_cons, List.length_nil]; omega)) only [go_sem, Nat.reduceAdd, Nat.reduceMul, Nat.reduceSub, Int.reduceAdd, Int.reduceMul, Int.reduceSub, Int.reduceNeg, Int.reduceToNat, q1, q5, q6, q7, q8, q9]
          refine ⟨l.length - (i + 1), by omega, _, To.refl _ _, i + 1, L', rfl, by omega, by simp -implicitDefEqProofs (disch := first | omega | (simp only [St.set_n, St.up_n, List.length_cons, List.length_nil]; omega)) only [go_sem, Nat.reduceAdd, Nat.reduceMul, Nat.reduceSub, Int.reduceAdd, Int.reduceMul, Int.reduceSub, Int.reduceNeg, Int.reduceToNat, q1], by simp -implicitDefEqProofs (disch := first | omega | (simp only [St.set_n, St.up_n, List.length_cons, List.length_nil]; omega)) only [go_sem, Nat.reduceAdd, Nat.reduceMul, Nat.reduceSub, Int.reduceAdd, Int.reduceMul, Int.reduceSub, Int.reduceNeg, Int.reduceToNat, q5], by simp -implicitDefEqProofs (disch := first | omega | (simp only [St.set_n, St.up_n, List.length_cons, List.length_nil]; omega)) only [go_sem, Nat.reduceAdd, Nat.reduceMul, Nat.reduceSub, Int.reduceAdd, Int.reduceMul, Int.reduceSub, Int.reduceNeg, Int.reduceToNat, q6], by simp -implicitDefEqProofs (disch := first | omega | (simp only [St.set_n, St.up_n, List.length_cons, List.length_nil]; omega)) only [go_sem, Nat.reduceAdd, Nat.reduceMul, Nat.reduceSub, Int.reduceAdd, Int.reduceMul, Int.reduceSub, Int.reduceNeg, Int.reduceToNat]; simp, by simp -implicitDefEqProofs (disch := first | omega | (simp only [St.set_n, St.up_n, List.length_cons, List.length_nil]; omega)) only [go_sem, Nat.reduceAdd, Nat.reduceMul, Nat.reduceSub, Int.reduceAdd, Int.reduceMul, Int.reduceSub, Int.reduceNeg, Int.reduceToNat, hd], ?_, ?_, hL, fun d y hd hy => ?_, by omega⟩
          · exact isGroup_keep hG fun d y _ hy => by have := (hws3.2 _ _ hy).2; exact hk2 d y (by omega) (hk1 d y this hy)
          · exact isRef_keep hR fun d y _ hy => by have := (hws3.2 _ _ hy).2; exact hk2 d y (by omega) (hk1 d y this hy)
          · exact hk2 d y (by omega) (hk1 d y (by omega) (hσ d y hd hy))
      · rw [if_neg hin] at q9
        have hin' : ¬ (0 ≤ id ∧ id < L.length) := by rw [hL]; exact hin
        refine SemS.seqw fun _ => ?_
        simp -implicitDefEqProofs (disch := first | omega | (simp only [St.set_n, St.up_n, List.length_cons, List.length_nil]; omega)) only [go_sem, Nat.reduceAdd, Nat.reduceMul, Nat.reduceSub, Int.reduceAdd, Int.reduceMul, Int.reduceSub, Int.reduceNeg, Int.reduceToNat, q1, q5, q6, q7, q8, q9, hbox]
        refine callF_of (ref_there hR ?_)
        simp -implicitDefEqProofs (disch := first | omega | (simp only [St.set_n, St.up_n, List.length_cons, List.length_nil]; omega)) only [go_sem, Nat.reduceAdd, Nat.reduceMul, Nat.reduceSub, Int.reduceAdd, Int.reduceMul, Int.reduceSub, Int.reduceNeg, Int.reduceToNat, q1, q5, q6, q7, q8, q9, hbox, hL, hin]
        refine SemS.seq (fun e3 s3 => MidL σ (some ⟨b, o', none⟩) l.length cap g k r o c i N s.n id u fr L e3 s3) ?_ ?_
        · refine SemS.wp fun _ => ?_
          cases fr with
          | true =>
            simp -implicitDefEqProofs (disch := first | omega | (simp only [St.set_n, St.up_n, List.length_cons, List.length_nil]; omega)) only [go_sem, Nat.reduceAdd, Nat.reduceMul, Nat.reduceSub, Int.reduceAdd, Int.reduceMul, Int.reduceSub, Int.reduceNeg, Int.reduceToNat, q1, q5, q6, q7, q8, q9, hbox]
            refine effD_plan [0, 0, 2, 7, 0, 0, 32, 0, 128, 511, 1023] [0, 1, 2, 4, 5, 6, 7, 8, 10] (.eag 0 (.eag 1 (.eagq 2 (.eag 4 (.eag 5 (.eagq 6 (.eag 7 (.eagq 8 (.alt 3 [6, 8] (.alt 9 [] (.eag 10 .fin) .stop) .stop))))))))) (by kernel_rfl) ?_
            simp -implicitDefEqProofs (disch := first | omega | (simp only [St.set_n, St.up_n, List.length_cons, List.length_nil]; omega)) only [go_sem, Nat.reduceAdd, Nat.reduceMul, Nat.reduceSub, Int.reduceAdd, Int.reduceMul, Int.reduceSub, Int.reduceNeg, Int.reduceToNat, q1, q5, q6, q7, q8, q9, hbox]
            refine callF_of (lock_free_none ?_)
            simp -implicitDefEqProofs (disch := first | omega | (simp only [St.set_n, St.up_n, List.length_cons, List.length_nil]; omega)) only [go_sem, Nat.reduceAdd, Nat.reduceMul, Nat.reduceSub, Int.reduceAdd, Int.reduceMul, Int.reduceSub, Int.reduceNeg, Int.reduceToNat, q1, q5, q6, q7, q8, q9, hbox]
            refine callF_of (ref_free_none hR hin' ?_)
            simp -implicitDefEqProofs (disch := first | omega | (simp only [St.set_n, St.up_n, List.length_cons, List.length_nil]; omega)) only [go_sem, Nat.reduceAdd, Nat.reduceMul, Nat.reduceSub, Int.reduceAdd, Int.reduceMul, Int.reduceSub, Int.reduceNeg, Int.reduceToNat, q1, q5, q6, q7, q8, q9, hbox]
            exact ⟨_, To.refl _ _, by simp -implicitDefEqProofs (disch := first | omega | (simp only [St.set_n, St.up_n, List.length_cons, List.length_nil]; omega)) only [go_sem, Nat.reduceAdd, Nat.reduceMul, Nat.reduceSub, Int.reduceAdd, Int.reduceMul, Int.reduceSub, Int.reduceNeg, Int.reduceToNat, q1], by simp -implicitDefEqProofs (disch := first | omega | (simp only [St.set_n, St.up_n, List.length_cons, List.length_nil]; omega)) only [go_sem, Nat.reduceAdd, Nat.reduceMul, Nat.reduceSub, Int.reduceAdd, Int.reduceMul, Int.reduceSub, Int.reduceNeg, Int.reduceToNat, q5], by simp -implicitDefEqProofs (disch := first | omega | (simp only [St.set_n, St.up_n, List.length_cons, List.length_nil]; omega)) only [go_sem, Nat.reduceAdd, Nat.reduceMul, Nat.reduceSub, Int.reduceAdd, Int.reduceMul, Int.reduceSub, Int.reduceNeg, Int.reduceToNat, q6], by simp -implicitDefEqProofs (disch := first | omega | (simp only [St.set_n, St.up_n, List.length_cons, List.length_nil]; omega)) only [go_sem, Nat.reduceAdd, Nat.reduceMul, Nat.reduceSub, Int.reduceAdd, Int.reduceMul, Int.reduceSub, Int.reduceNeg, Int.reduceToNat, q7], by simp -implicitDefEqProofs (disch := first | omega | (simp only [St.set_n, St.up_n, List.length_cons, List.length_nil]; omega)) only [go_sem, Nat.reduceAdd, Nat.reduceMul, Nat.reduceSub, Int.reduceAdd, Int.reduceMul, Int.reduceSub, Int.reduceNeg, Int.reduceToNat, q8], by simp -implicitDefEqProofs (disch := first | omega | (simp only [St.set_n, St.up_n, List.length_cons, List.length_nil]; omega)) only [go_sem, Nat.reduceAdd, Nat.reduceMul, Nat.reduceSub, Int.reduceAdd, Int.reduceMul, Int.reduceSub, Int.reduceNeg, Int.reduceToNat, q9, hin], by simp -implicitDefEqProofs (disch := first | omega | (simp only [St.set_n, St.up_n, List.length_cons, List.length_nil]; omega)) only [go_sem, Nat.reduceAdd, Nat.reduceMul, Nat.reduceSub, Int.reduceAdd, Int.reduceMul, Int.reduceSub, Int.reduceNeg, Int.reduceToNat, hd], hbox, hG, hR, hL, hσ, hsn2, hsn3⟩
          | false =>
            simp -implicitDefEqProofs (disch := first | omega | (simp only [St.set_n, St.up_n, List.length_cons, List.length_nil]; omega)) only [go_sem, Nat.reduceAdd, Nat.reduceMul, Nat.reduceSub, Int.reduceAdd, Int.reduceMul, Int.reduceSub, Int.reduceNeg, Int.reduceToNat, q1, q5, q6, q7, q8, q9, hbox]
            refine effD_plan [0, 0, 2, 7, 0, 0, 32, 0, 128, 511, 1023] [0, 1, 2, 4, 5, 6, 7, 8, 10] (.eag 0 (.eag 1 (.eagq 2 (.eag 4 (.eag 5 (.eagq 6 (.eag 7 (.eagq 8 (.alt 3 [6, 8] (.alt 9 [] (.eag 10 .fin) .stop) .stop))))))))) (by kernel_rfl) ?_
            simp -implicitDefEqProofs (disch := first | omega | (simp only [St.set_n, St.up_n, List.length_cons, List.length_nil]; omega)) only [go_sem, Nat.reduceAdd, Nat.reduceMul, Nat.reduceSub, Int.reduceAdd, Int.reduceMul, Int.reduceSub, Int.reduceNeg, Int.reduceToNat, q1, q5, q6, q7, q8, q9, hbox]
            refine callF_of (lock_try_none ?_)
            simp -implicitDefEqProofs (disch := first | omega | (simp only [St.set_n, St.up_n, List.length_cons, List.length_nil]; omega)) only [go_sem, Nat.reduceAdd, Nat.reduceMul, Nat.reduceSub, Int.reduceAdd, Int.reduceMul, Int.reduceSub, Int.reduceNeg, Int.reduceToNat, q1, q5, q6, q7, q8, q9, hbox]
            refine callF_of (ref_try_none hR hin' ?_)
            simp -implicitDefEqProofs (disch := first | omega | (simp only [St.set_n, St.up_n, List.length_cons, List.length_nil]; omega)) only [go_sem, Nat.reduceAdd, Nat.reduceMul, Nat.reduceSub, Int.reduceAdd, Int.reduceMul, Int.reduceSub, Int.reduceNeg, Int.reduceToNat, q1, q5, q6, q7, q8, q9, hbox]
            exact ⟨_, To.refl _ _, by simp -implicitDefEqProofs (disch := first | omega | (simp only [St.set_n, St.up_n, List.length_cons, List.length_nil]; omega)) only [go_sem, Nat.reduceAdd, Nat.reduceMul, Nat.reduceSub, Int.reduceAdd, Int.reduceMul, Int.reduceSub, Int.reduceNeg, Int.reduceToNat, q1], by simp -implicitDefEqProofs (disch := first | omega | (simp only [St.set_n, St.up_n, List.length_cons, List.length_nil]; omega)) only [go_sem, Nat.reduceAdd, Nat.reduceMul, Nat.reduceSub, Int.reduceAdd, Int.reduceMul, Int.reduceSub, Int.reduceNeg, Int.reduceToNat, q5], by simp -implicitDefEqProofs (disch := first | omega | (simp only [St.set_n, St.up_n, List.length_cons, List.length_nil]; omega)) only [go_sem, Nat.reduceAdd, Nat.reduceMul, Nat.reduceSub, Int.reduceAdd, Int.reduceMul, Int.reduceSub, Int.reduceNeg, Int.reduceToNat, q6], by simp -implicitDefEqProofs (disch := first | omega | (simp only [St.set_n, St.up_n, List.length_cons, List.length_nil]; omega)) only [go_sem, Nat.reduceAdd, Nat.reduceMul, Nat.reduceSub, Int.reduceAdd, Int.reduceMul, Int.reduceSub, Int.reduceNeg, Int.reduceToNat, q7], by simp -implicitDefEqProofs (disch := first | omega | (simp only [St.set_n, St.up_n, List.length_cons, List.length_nil]; omega)) only [go_sem, Nat.reduceAdd, Nat.reduceMul, Nat.reduceSub, Int.reduceAdd, Int.reduceMul, Int.reduceSub, Int.reduceNeg, Int.reduceToNat, q8], by simp -implicitDefEqProofs (disch := first | omega | (simp only [St.set_n, St.up_n, List.length_cons, List.length_nil]; omega)) only [go_sem, Nat.reduceAdd, Nat.reduceMul, Nat.reduceSub, Int.reduceAdd, Int.reduceMul, Int.reduceSub, Int.reduceNeg, Int.reduceToNat, q9, hin], by simp -implicitDefEqProofs (disch := first | omega | (simp only [St.set_n, St.up_n, List.length_cons, List.length_nil]; omega)) only [go_sem, Nat.reduceAdd, Nat.reduceMul, Nat.reduceSub, Int.reduceAdd, Int.reduceMul, Int.reduceSub, Int.reduceNeg, Int.reduceToNat, hd], hbox, hG, hR, hL, hσ, hsn2, hsn3⟩
        · clear hG hR hbox hσ q1 q5 q6 q7 q8 q9 hd
          rintro e3 s3 hws3 ⟨q1, q5, q6, q7, q8, q9, hd, hbox, hG, hR, hL', hσ, hsn4, hsn5⟩
          refine SemS.wp fun _ => ?_
          rw [if_neg hin] at q9
          simp -implicitDefEqProofs (disch := first | omega | (simp only [St.set_n, St.up_n, List.length_cons, List.length_nil]; omega)) only [go_sem, Nat.reduceAdd, Nat.reduceMul, Nat.reduceSub, Int.reduceAdd, Int.reduceMul, Int.reduceSub, Int.reduceNeg, Int.reduceToNat, q1, q5, q6, q7, q8, q9, hbox]
          refine effD_plan [0, 0, 2, 7, 15, 31, 63, 31, 159, 415, 927, 31, 2079, 8095, 16287, 32767, 65535, 131071, 262143, 131071, 655359, 1703935, 3801087, 131071, 8519679, 33161215, 66715647, 134217727, 268435455, 536870911, 1073741823, 2147483647, 2147483647, 6442450943, 17179869183, 2147483647, 2147483647, 70866960383, 274877906943, 549755813887, 1099511627775, 2199023255551] [0, 1, 2, 4, 5, 7, 8, 9, 10, 11, 12, 13, 14, 15, 16, 17, 19, 20, 21, 22, 23, 24, 25, 26, 27, 28, 29, 30, 31, 32, 33, 35, 36, 37, 40, 41] (.eag 0 (.eag 1 (.eagq 2 (.alt 3 [] (.eag 4 (.eag 5 (.eag 7 (.eag 8 (.eag 9 (.eagq 10 (.eag 11 (.eagq 12 (.eag 13 (.eagq 14 (.alt 6 [10, 12, 14] (.eag 15 (.eag 16 (.eag 17 (.eag 19 (.eag 20 (.eag 21 (.eagq 22 (.eag 23 (.eagq 24 (.eag 25 (.eagq 26 (.alt 18 [22, 24, 26] (.eag 27 (.eag 28 (.eag 29 (.eag 30 (.eag 31 (.eag 32 (.eagq 33 (.eag 35 (.eag 36 (.eagq 37 (.alt 34 [37] (.alt 38 [] (.alt 39 [] (.eag 40 (.eag 41 .fin)) .stop) .stop) .stop))))))))))) .stop)))))))))))) .stop))))))))))) .stop)))) (by kernel_rfl) ?_
          simp -implicitDefEqProofs (disch := first | omega | (simp only [St.set_n, St.up_n, List.length_cons, List.length_nil]; omega)) only [go_sem, Nat.reduceAdd, Nat.reduceMul, Nat.reduceSub, Int.reduceAdd, Int.reduceMul, Int.reduceSub, Int.reduceNeg, Int.reduceToNat, q1, q5, q6, q7, q8, q9, hbox]
          refine callF_of (ref_there hR ?_)
          simp -implicitDefEqProofs (disch := first | omega | (simp only [St.set_n, St.up_n, List.length_cons, List.length_nil]; omega)) only [go_sem, Nat.reduceAdd, Nat.reduceMul, Nat.reduceSub, Int.reduceAdd, Int.reduceMul, Int.reduceSub, Int.reduceNeg, Int.reduceToNat, q1, q5, q6, q7, q8, q9, hbox, hL, hin]
          refine callF_wf (group_held hG (by omega) fun w1 τ1 ho1 hb1 hk1 hn1 hwf1 => ?_)
          have hbox1 := hk1 _ _ (by omega) hbox
          have hR1 : IsRef τ1 r o c L := isRef_keep hR fun d y _ hy => hk1 d y (hws3.2 _ _ hy).2 hy
          simp -implicitDefEqProofs (disch := first | omega | (simp only [St.set_n, St.up_n, List.length_cons, List.length_nil]; omega)) only [go_sem, Nat.reduceAdd, Nat.reduceMul, Nat.reduceSub, Int.reduceAdd, Int.reduceMul, Int.reduceSub, Int.reduceNeg, Int.reduceToNat, q1, q5, q6, q7, q8, q9, hbox1]
          refine callF_wf (ref_held hR1 (by omega) fun w2 τ2 ho2 hb2 hk2 hn2 hwf2 => ?_)
          simp -implicitDefEqProofs (disch := first | omega | (simp only [St.set_n, St.up_n, List.length_cons, List.length_nil]; omega)) only [go_sem, Nat.reduceAdd, Nat.reduceMul, Nat.reduceSub, Int.reduceAdd, Int.reduceMul, Int.reduceSub, Int.reduceNeg, Int.reduceToNat, q1, q5, q6, q7, q8, q9]
          refine callF_of (same_ints (by have := heldTo_len L u L.length; unfold held; split <;> simp <;> omega) (ho1.keep fun d y hd hy => hk2 d y (hwf1.2 _ _ hy).2 hy) ho2 ?_)
          simp -implicitDefEqProofs (disch := first | omega | (simp only [St.set_n, St.up_n, List.length_cons, List.length_nil]; omega)) only [go_sem, Nat.reduceAdd, Nat.reduceMul, Nat.reduceSub, Int.reduceAdd, Int.reduceMul, Int.reduceSub, Int.reduceNeg, Int.reduceToNat, q1, q5, q6, q7, q8, q9]
          refine SemS.wp fun _ => ?_
          simp -implicitDefEqProofs (disch := first | omega | (simp only [St.set_n, St.up_n, List.length_cons, List.length_nil]; omega)) only [go_sem, Nat.reduceAdd, Nat.reduceMul, Nat.reduceSub, Int.reduceAdd, Int.reduceMul, Int.reduceSub, Int.reduceNeg, Int.reduceToNat, q1, q5, q6, q7, q8, q9]
          refine ⟨l.length - (i + 1), by omega, _, To.refl _ _, i + 1, L, rfl, by omega, by simp -implicitDefEqProofs (disch := first | omega | (simp only [St.set_n, St.up_n, List.length_cons, List.length_nil]; omega)) only [go_sem, Nat.reduceAdd, Nat.reduceMul, Nat.reduceSub, Int.reduceAdd, Int.reduceMul, Int.reduceSub, Int.reduceNeg, Int.reduceToNat, q1], by simp -implicitDefEqProofs (disch := first | omega | (simp only [St.set_n, St.up_n, List.length_cons, List.length_nil]; omega)) only [go_sem, Nat.reduceAdd, Nat.reduceMul, Nat.reduceSub, Int.reduceAdd, Int.reduceMul, Int.reduceSub, Int.reduceNeg, Int.reduceToNat, q5], by simp -implicitDefEqProofs (disch := first | omega | (simp only [St.set_n, St.up_n, List.length_cons, List.length_nil]; omega)) only [go_sem, Nat.reduceAdd, Nat.reduceMul, Nat.reduceSub, Int.reduceAdd, Int.reduceMul, Int.reduceSub, Int.reduceNeg, Int.reduceToNat, q6], by simp -implicitDefEqProofs (disch := first | omega | (simp only [St.set_n, St.up_n, List.length_cons, List.length_nil]; omega)) only [go_sem, Nat.reduceAdd, Nat.reduceMul, Nat.reduceSub, Int.reduceAdd, Int.reduceMul, Int.reduceSub, Int.reduceNeg, Int.reduceToNat]; simp, by simp -implicitDefEqProofs (disch := first | omega | (simp only [St.set_n, St.up_n, List.length_cons, List.length_nil]; omega)) only [go_sem, Nat.reduceAdd, Nat.reduceMul, Nat.reduceSub, Int.reduceAdd, Int.reduceMul, Int.reduceSub, Int.reduceNeg, Int.reduceToNat, hd], ?_, ?_, hL, fun d y hd hy => ?_, by omega⟩
          · exact isGroup_keep hG fun d y _ hy => by have := (hws3.2 _ _ hy).2; exact hk2 d y (by omega) (hk1 d y this hy)
          · exact isRef_keep hR fun d y _ hy => by have := (hws3.2 _ _ hy).2; exact hk2 d y (by omega) (hk1 d y this hy)
          · exact hk2 d y (by omega) (hk1 d y (by omega) (hσ d y hd hy))
    · refine SemS.wp fun _ => ?_
      simp -implicitDefEqProofs (disch := first | omega | (simp only [St.set_n, St.up_n, List.length_cons, List.length_nil]; omega)) only [go_sem, Nat.reduceAdd, Nat.reduceMul, Nat.reduceSub, Int.reduceAdd, Int.reduceMul, Int.reduceSub, Int.reduceNeg, Int.reduceToNat, q1, q5, q6, q7, hlt, hd]
      exact ⟨_, To.same (fun d y h2 h3 => hσ _ _ h2 h3) hwf, hK _ (by (try simp only [St.up_n, St.set_n, leftAs] at *); omega)⟩
end
end Go.Proofs.Ytbjgoajdfdonfaa
