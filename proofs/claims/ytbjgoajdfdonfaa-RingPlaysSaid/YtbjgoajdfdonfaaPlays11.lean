/- 'RingPlays': the walk. -/
import Derived.Test.YtbjgoajdfdonfaaTick11
import Derived.Test.YtbjgoajdfdonfaaOrder11
namespace Go.Proofs.Ytbjgoajdfdonfaa
set_option linter.unusedSimpArgs false
set_option linter.unusedVariables false
set_option maxRecDepth 100000
open Go Go.RowKit
section
variable {B : World} {σ : St} {K : Value → St → Prop}

def RI64 (x : Int) (cs : List Value) : Prop := cs = [.int .i64 x]
structure EP (a : Option Addr) (N cap r p i : Nat) (t : Int) (e : Fr) : Prop where
  v1 : e.v 1 = .slice a N cap
  v2 : e.v 2 = .int .i64 t
  v7 : e.v 7 = .pointer (some ⟨r, 0, none⟩)
  v8 : e.v 8 = .pointer (some ⟨p, 0, none⟩)
  v9 : e.v 9 = .int .i64 i
  d : e.d = []
structure SP (σ : St) (k n i : Nat) (L : List Int) (G : Nat) (D : Int) (w : Value) (s : St) : Prop where
  ring : IsRing s (k + 1) k n L G D
  rr : IsRR s (k + 2) n w L G D
  off : ∀ b, blk w = some b → k + 3 ≤ b
  gi : G ≤ i
  old : ∀ c x, c < σ.n → σ.m c = some x → s.m c = some x
  sn : k + 3 ≤ s.n
/-- Behind a deed: what the next one begins with, but for its number. -/
structure MP (σ : St) (a : Option Addr) (N cap k n i : Nat) (t : Int) (e : Fr) (s : St) : Prop where
  ep : EP a N cap (k + 1) (k + 2) i t e
  sp : ∃ (L : List Int) (G : Nat) (D : Int) (w : Value), SP σ k n (i + 1) L G D w s
structure KP (k j : Nat) (s : St) (e : Fr) (s1 : St) : Prop where
  st : s1 = s
  v7 : e.v 7 = .pointer (some ⟨k + 1, 0, none⟩)
  v8 : e.v 8 = .pointer (some ⟨k + 2, 0, none⟩)
  v14 : e.v 14 = .int .i64 j
  d : e.d = []
theorem isRR_keep {τ : St} {p n G : Nat} {w : Value} {L : List Int} {D : Int} (h : IsRR σ p n w L G D) (hk : ∀ c x, c = p ∨ blk w = some c → σ.m c = some x → τ.m c = some x) : IsRR τ p n w L G D :=
  ⟨h.pos, h.big, h.full, h.low, hk _ _ (.inl rfl) h.root, h.own.keepR fun b _ hb ho => hk b _ (.inr hb) ho, h.ne⟩
theorem SP.rr1 {k n i : Nat} {L : List Int} {G : Nat} {D : Int} {w : Value} {s τ : St} (h : SP σ k n i L G D w s) (hk : ∀ c, c ≠ k + 1 → c ≠ k → τ.m c = s.m c) : IsRR τ (k + 2) n w L G D :=
  isRR_keep h.rr fun c x hc hx => by
    have : c ≠ k + 1 ∧ c ≠ k := by
      rcases hc with rfl | hc
      · omega
      · have := h.off c hc; omega
    rw [hk c this.1 this.2]; exact hx
theorem SP.two {k n i : Nat} {L L' : List Int} {G G' : Nat} {D D' : Int} {w w' : Value} {s τ τ' : St} (h : SP σ k n i L G D w s) (hσk : σ.n ≤ k) (hR : IsRing τ (k + 1) k n L' G' D') (hn : τ.n = s.n) (hk : ∀ c, c ≠ k + 1 → c ≠ k → τ.m c = s.m c)
    (hRR : IsRR τ' (k + 2) n w' L' G' D') (hk2 : ∀ c y, c ≠ k + 2 → blk w ≠ some c → τ.m c = some y → τ'.m c = some y) (hw' : ∀ b, blk w' = some b → τ.n ≤ b ∨ blk w = some b) (hn2 : τ.n ≤ τ'.n) (hG : G' ≤ i + 1) : SP σ k n (i + 1) L' G' D' w' τ' := by
  have hsn := h.sn
  have hoff : ∀ c, c < k + 3 → blk w ≠ some c := fun c hc e => by have := h.off c e; omega
  refine ⟨isRing_keep hR fun c y hc hy => hk2 c y (by omega) (hoff c (by omega)) hy, hRR, fun b hb => ?_, hG, fun c x hc hx => hk2 c x (by omega) (hoff c (by omega)) ?_, by omega⟩
  · rcases hw' b hb with h' | h'
    · omega
    · exact h.off b h'
  · rw [hk c (by omega) (by omega)]; exact h.old c x hc hx

set_option maxHeartbeats 4000000 in
theorem plays11 {sl t : Int} {l : List Int} {v : Value} (hl : SlR B 1 RI64 l v) (hK : ∀ k, σ.n ≤ k → K (.bool true) (σ.up k)) : Fn Try.prog B 13 #[.int .i64 sl, v, .int .i64 t] σ K := by
  obtain ⟨a, cap, rfl, hlc, hcm, hnil, hat⟩ := hl
  refine Fn.of' is13 (by simp) fun hwf => ?_
  have hB := hwf.1
  simp only [b13, Try.f13, Option.getD_some]
  simp -implicitDefEqProofs (disch := first | omega | (simp only [St.set_n, St.up_n, List.length_cons, List.length_nil]; omega)) only [go_sem, Nat.reduceAdd, Nat.reduceMul, Nat.reduceSub, Int.reduceAdd, Int.reduceMul, Int.reduceSub, Int.reduceNeg, Int.reduceToNat]
  refine callF_of (awake11 fun k hk => ?_)
  simp -implicitDefEqProofs (disch := first | omega | (simp only [St.set_n, St.up_n, List.length_cons, List.length_nil]; omega)) only [go_sem, Nat.reduceAdd, Nat.reduceMul, Nat.reduceSub, Int.reduceAdd, Int.reduceMul, Int.reduceSub, Int.reduceNeg, Int.reduceToNat]
  by_cases h500 : (500 : Int) < l.length
  · simp -implicitDefEqProofs (disch := first | omega | (simp only [St.set_n, St.up_n, List.length_cons, List.length_nil]; omega)) only [go_sem, Nat.reduceAdd, Nat.reduceMul, Nat.reduceSub, Int.reduceAdd, Int.reduceMul, Int.reduceSub, Int.reduceNeg, Int.reduceToNat, h500]
    exact ⟨_, To.same (fun d y h2 h3 => by simp -implicitDefEqProofs (disch := first | omega | (simp only [St.set_n, St.up_n, List.length_cons, List.length_nil]; omega)) only [go_sem, Nat.reduceAdd, Nat.reduceMul, Nat.reduceSub, Int.reduceAdd, Int.reduceMul, Int.reduceSub, Int.reduceNeg, Int.reduceToNat, h3]) hwf, hK _ (by (try simp only [St.up_n, St.set_n, leftAs] at *); omega)⟩
  simp -implicitDefEqProofs (disch := first | omega | (simp only [St.set_n, St.up_n, List.length_cons, List.length_nil]; omega)) only [go_sem, Nat.reduceAdd, Nat.reduceMul, Nat.reduceSub, Int.reduceAdd, Int.reduceMul, Int.reduceSub, Int.reduceNeg, Int.reduceToNat, h500]
  refine callF_of (ring_new fun τ0 hR0 hn0 hk0 => ?_)
  simp -implicitDefEqProofs (disch := first | omega | (simp only [St.set_n, St.up_n, List.length_cons, List.length_nil]; omega)) only [go_sem, Nat.reduceAdd, Nat.reduceMul, Nat.reduceSub, Int.reduceAdd, Int.reduceMul, Int.reduceSub, Int.reduceNeg, Int.reduceToNat]
  refine callF_of (refr_new fun τ1 hR1 hn1 hk1 => ?_)
  simp only [St.up_n] at hR0 hn0 hk0 hn1
  rw [hn0] at hR1 hn1 hk1 ⊢
  have hN : ringN sl ≤ 1024 := hR0.big
  have hN1 := hR0.pos
  generalize ringN sl = n at hR0 hR1 hN hN1
  have hSP : SP σ k n 0 [] 0 0 (.slice none 0 0) τ1 := ⟨isRing_keep hR0 fun c x hc hx => hk1 c x (by omega) hx, hR1, fun b hb => (by cases hb), Nat.le_refl _, fun c x hc hx => hk1 c x (by omega) (hk0 c x (by omega) (by simp -implicitDefEqProofs (disch := first | omega | (simp only [St.set_n, St.up_n, List.length_cons, List.length_nil]; omega)) only [go_sem, Nat.reduceAdd, Nat.reduceMul, Nat.reduceSub, Int.reduceAdd, Int.reduceMul, Int.reduceSub, Int.reduceNeg, Int.reduceToNat, hx])), by omega⟩
  clear hR0 hR1 hk0 hk1 hn0 hn1
  have hroot := hSP.rr.root
  have hcR := hSP.ring
  simp -implicitDefEqProofs (disch := first | omega | (simp only [St.set_n, St.up_n, List.length_cons, List.length_nil]; omega)) only [go_sem, Nat.reduceAdd, Nat.reduceMul, Nat.reduceSub, Int.reduceAdd, Int.reduceMul, Int.reduceSub, Int.reduceNeg, Int.reduceToNat, hroot]
  refine effD_plan [0, 1, 0, 4, 12, 28, 63] [0, 2, 3, 4, 5, 6] (.eag 0 (.eag 2 (.eag 3 (.eag 4 (.eagq 5 (.alt 1 [5] (.eag 6 .fin) .stop)))))) (by kernel_rfl) ?_
  simp -implicitDefEqProofs (disch := first | omega | (simp only [St.set_n, St.up_n, List.length_cons, List.length_nil]; omega)) only [go_sem, Nat.reduceAdd, Nat.reduceMul, Nat.reduceSub, Int.reduceAdd, Int.reduceMul, Int.reduceSub, Int.reduceNeg, Int.reduceToNat, hroot]
  refine callF_of (ring_cap hcR ?_)
  simp -implicitDefEqProofs (disch := first | omega | (simp only [St.set_n, St.up_n, List.length_cons, List.length_nil]; omega)) only [go_sem, Nat.reduceAdd, Nat.reduceMul, Nat.reduceSub, Int.reduceAdd, Int.reduceMul, Int.reduceSub, Int.reduceNeg, Int.reduceToNat, hroot]
  refine LoopS.of (SemS.loop (fun m e s => ∃ (i G : Nat) (L : List Int) (D : Int) (w : Value), m = l.length - i ∧ i ≤ l.length ∧ EP a l.length cap (k + 1) (k + 2) i t e ∧ SP σ k n i L G D w s) l.length ?_ ?_)
  · refine ⟨0, 0, [], 0, .slice none 0 0, by omega, by omega, ⟨by simp -implicitDefEqProofs (disch := first | omega | (simp only [St.set_n, St.up_n, List.length_cons, List.length_nil]; omega)) only [go_sem, Nat.reduceAdd, Nat.reduceMul, Nat.reduceSub, Int.reduceAdd, Int.reduceMul, Int.reduceSub, Int.reduceNeg, Int.reduceToNat], by simp -implicitDefEqProofs (disch := first | omega | (simp only [St.set_n, St.up_n, List.length_cons, List.length_nil]; omega)) only [go_sem, Nat.reduceAdd, Nat.reduceMul, Nat.reduceSub, Int.reduceAdd, Int.reduceMul, Int.reduceSub, Int.reduceNeg, Int.reduceToNat], by simp -implicitDefEqProofs (disch := first | omega | (simp only [St.set_n, St.up_n, List.length_cons, List.length_nil]; omega)) only [go_sem, Nat.reduceAdd, Nat.reduceMul, Nat.reduceSub, Int.reduceAdd, Int.reduceMul, Int.reduceSub, Int.reduceNeg, Int.reduceToNat], by simp -implicitDefEqProofs (disch := first | omega | (simp only [St.set_n, St.up_n, List.length_cons, List.length_nil]; omega)) only [go_sem, Nat.reduceAdd, Nat.reduceMul, Nat.reduceSub, Int.reduceAdd, Int.reduceMul, Int.reduceSub, Int.reduceNeg, Int.reduceToNat], by simp -implicitDefEqProofs (disch := first | omega | (simp only [St.set_n, St.up_n, List.length_cons, List.length_nil]; omega)) only [go_sem, Nat.reduceAdd, Nat.reduceMul, Nat.reduceSub, Int.reduceAdd, Int.reduceMul, Int.reduceSub, Int.reduceNeg, Int.reduceToNat]; rfl, by simp -implicitDefEqProofs (disch := first | omega | (simp only [St.set_n, St.up_n, List.length_cons, List.length_nil]; omega)) only [go_sem, Nat.reduceAdd, Nat.reduceMul, Nat.reduceSub, Int.reduceAdd, Int.reduceMul, Int.reduceSub, Int.reduceNeg, Int.reduceToNat]⟩, hSP⟩
  · rintro m e s hws ⟨i, G, L, D, w, hm, hi, ⟨q1, q2, q7, q8, q9, hd⟩, hF⟩
    have hgi := hF.gi
    by_cases hlt : (i : Int) < l.length
    · obtain ⟨x, hacc⟩ : ∃ x, l[i]? = some x := ⟨l[i]'(by omega), List.getElem?_eq_getElem (by omega)⟩
      obtain ⟨b, o, cs, rfl, hb, hR, hsz, hcell⟩ := hat i _ hacc
      simp only [RI64] at hR
      subst hR
      have c0 : B.cell? ⟨b, o + i * 1, none⟩ = _ := hcell 0 _ rfl
      simp only [Nat.mul_one] at c0
      have hbs := wfLow hws hb
      clear hat hcell hnil hlc hcm hsz
      refine SemS.seqw fun _ => ?_
      simp -implicitDefEqProofs (disch := first | omega | (simp only [St.set_n, St.up_n, List.length_cons, List.length_nil]; omega)) only [go_sem, Nat.reduceAdd, Nat.reduceMul, Nat.reduceSub, Int.reduceAdd, Int.reduceMul, Int.reduceSub, Int.reduceNeg, Int.reduceToNat, q1, q2, q7, q8, q9, hlt]
      refine SemS.seqs (SemS.block ?_)
      refine SemS.seq (fun e2 s2 => MP σ (some ⟨b, o, none⟩) l.length cap k n i t e2 s2) ?_ ?_
      · refine SemS.wp fun _ => ?_
        have hgn : G + n ≤ 1000000000000 := by omega
        simp -implicitDefEqProofs (disch := first | omega | (simp only [St.set_n, St.up_n, List.length_cons, List.length_nil]; omega)) only [go_sem, Nat.reduceAdd, Nat.reduceMul, Nat.reduceSub, Int.reduceAdd, Int.reduceMul, Int.reduceSub, Int.reduceNeg, Int.reduceToNat, q1, q2, q7, q8, q9, hbs, hb, c0]
        by_cases hx : (0 : Int) ≤ x
        · simp -implicitDefEqProofs (disch := first | omega | (simp only [St.set_n, St.up_n, List.length_cons, List.length_nil]; omega)) only [go_sem, Nat.reduceAdd, Nat.reduceMul, Nat.reduceSub, Int.reduceAdd, Int.reduceMul, Int.reduceSub, Int.reduceNeg, Int.reduceToNat, q1, q2, q7, q8, q9, hbs, hb, c0, hx]
          refine effD_plan [0, 0, 0, 6, 14, 31, 0, 0, 0, 384, 896, 2047, 4095] [0, 1, 2, 3, 4, 6, 7, 8, 9, 10, 12] (.eag 0 (.eag 1 (.eag 2 (.eag 3 (.eagq 4 (.eag 6 (.eag 7 (.eag 8 (.eag 9 (.eagq 10 (.alt 5 [10] (.alt 11 [] (.eag 12 .fin) .stop) .stop))))))))))) (by kernel_rfl) ?_
          simp -implicitDefEqProofs (disch := first | omega | (simp only [St.set_n, St.up_n, List.length_cons, List.length_nil]; omega)) only [go_sem, Nat.reduceAdd, Nat.reduceMul, Nat.reduceSub, Int.reduceAdd, Int.reduceMul, Int.reduceSub, Int.reduceNeg, Int.reduceToNat, q1, q2, q7, q8, q9, hbs, hb, c0, hx]
          refine callF_wf (ring_put hF.ring hgn fun τ hR' hn' hk' hwτ => ?_)
          have hrr := hF.rr1 hk'
          have hbs2 := wfLow hwτ hb
          simp -implicitDefEqProofs (disch := first | omega | (simp only [St.set_n, St.up_n, List.length_cons, List.length_nil]; omega)) only [go_sem, Nat.reduceAdd, Nat.reduceMul, Nat.reduceSub, Int.reduceAdd, Int.reduceMul, Int.reduceSub, Int.reduceNeg, Int.reduceToNat, q1, q2, q7, q8, q9, hbs2, hb, c0, hx]
          refine callF_of (refr_put hrr hgn fun τ' w' hRR hk2 hw2 hn2 => ?_)
          simp -implicitDefEqProofs (disch := first | omega | (simp only [St.set_n, St.up_n, List.length_cons, List.length_nil]; omega)) only [go_sem, Nat.reduceAdd, Nat.reduceMul, Nat.reduceSub, Int.reduceAdd, Int.reduceMul, Int.reduceSub, Int.reduceNeg, Int.reduceToNat, q1, q2, q7, q8, q9, hbs, hb, c0, hx]
          exact ⟨_, To.refl _ _, ⟨by simp -implicitDefEqProofs (disch := first | omega | (simp only [St.set_n, St.up_n, List.length_cons, List.length_nil]; omega)) only [go_sem, Nat.reduceAdd, Nat.reduceMul, Nat.reduceSub, Int.reduceAdd, Int.reduceMul, Int.reduceSub, Int.reduceNeg, Int.reduceToNat, q1], by simp -implicitDefEqProofs (disch := first | omega | (simp only [St.set_n, St.up_n, List.length_cons, List.length_nil]; omega)) only [go_sem, Nat.reduceAdd, Nat.reduceMul, Nat.reduceSub, Int.reduceAdd, Int.reduceMul, Int.reduceSub, Int.reduceNeg, Int.reduceToNat, q2], by simp -implicitDefEqProofs (disch := first | omega | (simp only [St.set_n, St.up_n, List.length_cons, List.length_nil]; omega)) only [go_sem, Nat.reduceAdd, Nat.reduceMul, Nat.reduceSub, Int.reduceAdd, Int.reduceMul, Int.reduceSub, Int.reduceNeg, Int.reduceToNat, q7], by simp -implicitDefEqProofs (disch := first | omega | (simp only [St.set_n, St.up_n, List.length_cons, List.length_nil]; omega)) only [go_sem, Nat.reduceAdd, Nat.reduceMul, Nat.reduceSub, Int.reduceAdd, Int.reduceMul, Int.reduceSub, Int.reduceNeg, Int.reduceToNat, q8], by simp -implicitDefEqProofs (disch := first | omega | (simp only [St.set_n, St.up_n, List.length_cons, List.length_nil]; omega)) only [go_sem, Nat.reduceAdd, Nat.reduceMul, Nat.reduceSub, Int.reduceAdd, Int.reduceMul, Int.reduceSub, Int.reduceNeg, Int.reduceToNat, q9], by simp -implicitDefEqProofs (disch := first | omega | (simp only [St.set_n, St.up_n, List.length_cons, List.length_nil]; omega)) only [go_sem, Nat.reduceAdd, Nat.reduceMul, Nat.reduceSub, Int.reduceAdd, Int.reduceMul, Int.reduceSub, Int.reduceNeg, Int.reduceToNat, hd]⟩, _, _, _, _, hF.two hk hR' hn' hk' hRR hk2 hw2 hn2 (by omega)⟩
        · simp -implicitDefEqProofs (disch := first | omega | (simp only [St.set_n, St.up_n, List.length_cons, List.length_nil]; omega)) only [go_sem, Nat.reduceAdd, Nat.reduceMul, Nat.reduceSub, Int.reduceAdd, Int.reduceMul, Int.reduceSub, Int.reduceNeg, Int.reduceToNat, q1, q2, q7, q8, q9, hbs, hb, c0, hx]
          refine callF_of (ring_get hF.ring hgn fun τ hR' hn' hk' => ?_)
          have hrr := hF.rr1 hk'
          simp -implicitDefEqProofs (disch := first | omega | (simp only [St.set_n, St.up_n, List.length_cons, List.length_nil]; omega)) only [go_sem, Nat.reduceAdd, Nat.reduceMul, Nat.reduceSub, Int.reduceAdd, Int.reduceMul, Int.reduceSub, Int.reduceNeg, Int.reduceToNat, q1, q2, q7, q8, q9, hbs, hb, c0, hx]
          refine callF_of (refr_get hrr hgn fun τ' w' hRR hk2 hw2 hn2 => ?_)
          simp -implicitDefEqProofs (disch := first | omega | (simp only [St.set_n, St.up_n, List.length_cons, List.length_nil]; omega)) only [go_sem, Nat.reduceAdd, Nat.reduceMul, Nat.reduceSub, Int.reduceAdd, Int.reduceMul, Int.reduceSub, Int.reduceNeg, Int.reduceToNat, q1, q2, q7, q8, q9, hbs, hb, c0, hx]
          exact ⟨_, To.refl _ _, ⟨by simp -implicitDefEqProofs (disch := first | omega | (simp only [St.set_n, St.up_n, List.length_cons, List.length_nil]; omega)) only [go_sem, Nat.reduceAdd, Nat.reduceMul, Nat.reduceSub, Int.reduceAdd, Int.reduceMul, Int.reduceSub, Int.reduceNeg, Int.reduceToNat, q1], by simp -implicitDefEqProofs (disch := first | omega | (simp only [St.set_n, St.up_n, List.length_cons, List.length_nil]; omega)) only [go_sem, Nat.reduceAdd, Nat.reduceMul, Nat.reduceSub, Int.reduceAdd, Int.reduceMul, Int.reduceSub, Int.reduceNeg, Int.reduceToNat, q2], by simp -implicitDefEqProofs (disch := first | omega | (simp only [St.set_n, St.up_n, List.length_cons, List.length_nil]; omega)) only [go_sem, Nat.reduceAdd, Nat.reduceMul, Nat.reduceSub, Int.reduceAdd, Int.reduceMul, Int.reduceSub, Int.reduceNeg, Int.reduceToNat, q7], by simp -implicitDefEqProofs (disch := first | omega | (simp only [St.set_n, St.up_n, List.length_cons, List.length_nil]; omega)) only [go_sem, Nat.reduceAdd, Nat.reduceMul, Nat.reduceSub, Int.reduceAdd, Int.reduceMul, Int.reduceSub, Int.reduceNeg, Int.reduceToNat, q8], by simp -implicitDefEqProofs (disch := first | omega | (simp only [St.set_n, St.up_n, List.length_cons, List.length_nil]; omega)) only [go_sem, Nat.reduceAdd, Nat.reduceMul, Nat.reduceSub, Int.reduceAdd, Int.reduceMul, Int.reduceSub, Int.reduceNeg, Int.reduceToNat, q9], by simp -implicitDefEqProofs (disch := first | omega | (simp only [St.set_n, St.up_n, List.length_cons, List.length_nil]; omega)) only [go_sem, Nat.reduceAdd, Nat.reduceMul, Nat.reduceSub, Int.reduceAdd, Int.reduceMul, Int.reduceSub, Int.reduceNeg, Int.reduceToNat, hd]⟩, _, _, _, _, hF.two hk hR' hn' hk' hRR (fun c y hc _ hy => hk2 c y hc hy) hw2 hn2 (by split <;> omega)⟩
      · clear hF q1 q2 q7 q8 q9 hd c0 hbs hws hgi G L D w
        rintro e s hws ⟨⟨q1, q2, q7, q8, q9, hd⟩, L, G, D, w, hF⟩
        refine SemS.wp fun _ => ?_
        have hroot := hF.rr.root
        obtain ⟨A, C, rfl, hC⟩ := hF.rr.own.is
        simp -implicitDefEqProofs (disch := first | omega | (simp only [St.set_n, St.up_n, List.length_cons, List.length_nil]; omega)) only [go_sem, Nat.reduceAdd, Nat.reduceMul, Nat.reduceSub, Int.reduceAdd, Int.reduceMul, Int.reduceSub, Int.reduceNeg, Int.reduceToNat, q1, q2, q7, q8, q9]
        refine effD_plan [0, 1, 0, 4, 12, 28, 60, 127, 255, 511, 1023, 511, 2559, 6655, 14847, 32767, 65535, 131071, 262143, 262143, 1048575, 262143, 262143, 8388607, 16777215, 33554431] [0, 2, 3, 4, 5, 6, 7, 8, 9, 11, 12, 13, 14, 15, 16, 17, 18, 19, 21, 22, 24, 25] (.eag 0 (.eag 2 (.eag 3 (.eag 4 (.eagq 5 (.eagq 6 (.alt 1 [5, 6] (.eag 7 (.eag 8 (.eag 9 (.eag 11 (.eag 12 (.eag 13 (.eagq 14 (.alt 10 [14] (.eag 15 (.eag 16 (.eag 17 (.eag 18 (.eag 19 (.eag 21 (.eag 22 (.alt 20 [] (.alt 23 [] (.eag 24 (.eag 25 .fin)) .stop) .stop)))))))) .stop)))))))) .stop))))))) (by kernel_rfl) ?_
        simp -implicitDefEqProofs (disch := first | omega | (simp only [St.set_n, St.up_n, List.length_cons, List.length_nil]; omega)) only [go_sem, Nat.reduceAdd, Nat.reduceMul, Nat.reduceSub, Int.reduceAdd, Int.reduceMul, Int.reduceSub, Int.reduceNeg, Int.reduceToNat, q1, q2, q7, q8, q9, hroot]
        refine callF_of (ring_len hF.ring ?_)
        simp -implicitDefEqProofs (disch := first | omega | (simp only [St.set_n, St.up_n, List.length_cons, List.length_nil]; omega)) only [go_sem, Nat.reduceAdd, Nat.reduceMul, Nat.reduceSub, Int.reduceAdd, Int.reduceMul, Int.reduceSub, Int.reduceNeg, Int.reduceToNat, q1, q2, q7, q8, q9, hroot]
        refine callF_of (ring_drops hF.ring ?_)
        simp -implicitDefEqProofs (disch := first | omega | (simp only [St.set_n, St.up_n, List.length_cons, List.length_nil]; omega)) only [go_sem, Nat.reduceAdd, Nat.reduceMul, Nat.reduceSub, Int.reduceAdd, Int.reduceMul, Int.reduceSub, Int.reduceNeg, Int.reduceToNat, q1, q2, q7, q8, q9, hroot]
        refine callF_of (ring_seq hF.ring ?_)
        simp -implicitDefEqProofs (disch := first | omega | (simp only [St.set_n, St.up_n, List.length_cons, List.length_nil]; omega)) only [go_sem, Nat.reduceAdd, Nat.reduceMul, Nat.reduceSub, Int.reduceAdd, Int.reduceMul, Int.reduceSub, Int.reduceNeg, Int.reduceToNat, q1, q2, q7, q8, q9, hroot]
        refine callF_of (refr_seq hF.rr ?_)
        simp -implicitDefEqProofs (disch := first | omega | (simp only [St.set_n, St.up_n, List.length_cons, List.length_nil]; omega)) only [go_sem, Nat.reduceAdd, Nat.reduceMul, Nat.reduceSub, Int.reduceAdd, Int.reduceMul, Int.reduceSub, Int.reduceNeg, Int.reduceToNat, q1, q2, q7, q8, q9, hroot]
        refine SemS.wp fun _ => ?_
        simp -implicitDefEqProofs (disch := first | omega | (simp only [St.set_n, St.up_n, List.length_cons, List.length_nil]; omega)) only [go_sem, Nat.reduceAdd, Nat.reduceMul, Nat.reduceSub, Int.reduceAdd, Int.reduceMul, Int.reduceSub, Int.reduceNeg, Int.reduceToNat, q1, q2, q7, q8, q9]
        exact ⟨l.length - (i + 1), by omega, _, To.refl _ _, i + 1, G, L, D, _, rfl, by omega, ⟨by simp -implicitDefEqProofs (disch := first | omega | (simp only [St.set_n, St.up_n, List.length_cons, List.length_nil]; omega)) only [go_sem, Nat.reduceAdd, Nat.reduceMul, Nat.reduceSub, Int.reduceAdd, Int.reduceMul, Int.reduceSub, Int.reduceNeg, Int.reduceToNat, q1], by simp -implicitDefEqProofs (disch := first | omega | (simp only [St.set_n, St.up_n, List.length_cons, List.length_nil]; omega)) only [go_sem, Nat.reduceAdd, Nat.reduceMul, Nat.reduceSub, Int.reduceAdd, Int.reduceMul, Int.reduceSub, Int.reduceNeg, Int.reduceToNat, q2], by simp -implicitDefEqProofs (disch := first | omega | (simp only [St.set_n, St.up_n, List.length_cons, List.length_nil]; omega)) only [go_sem, Nat.reduceAdd, Nat.reduceMul, Nat.reduceSub, Int.reduceAdd, Int.reduceMul, Int.reduceSub, Int.reduceNeg, Int.reduceToNat, q7], by simp -implicitDefEqProofs (disch := first | omega | (simp only [St.set_n, St.up_n, List.length_cons, List.length_nil]; omega)) only [go_sem, Nat.reduceAdd, Nat.reduceMul, Nat.reduceSub, Int.reduceAdd, Int.reduceMul, Int.reduceSub, Int.reduceNeg, Int.reduceToNat, q8], by simp -implicitDefEqProofs (disch := first | omega | (simp only [St.set_n, St.up_n, List.length_cons, List.length_nil]; omega)) only [go_sem, Nat.reduceAdd, Nat.reduceMul, Nat.reduceSub, Int.reduceAdd, Int.reduceMul, Int.reduceSub, Int.reduceNeg, Int.reduceToNat]; rfl, by simp -implicitDefEqProofs (disch := first | omega | (simp only [St.set_n, St.up_n, List.length_cons, List.length_nil]; omega)) only [go_sem, Nat.reduceAdd, Nat.reduceMul, Nat.reduceSub, Int.reduceAdd, Int.reduceMul, Int.reduceSub, Int.reduceNeg, Int.reduceToNat, hd]⟩, hF⟩
    · refine SemS.wp fun _ => ?_
      have hroot := hF.rr.root
      simp -implicitDefEqProofs (disch := first | omega | (simp only [St.set_n, St.up_n, List.length_cons, List.length_nil]; omega)) only [go_sem, Nat.reduceAdd, Nat.reduceMul, Nat.reduceSub, Int.reduceAdd, Int.reduceMul, Int.reduceSub, Int.reduceNeg, Int.reduceToNat, q1, q2, q7, q8, q9, hlt, hroot]
      refine loop_rule (fun m e s1 => ∃ j : Nat, m = n - j ∧ j ≤ n ∧ KP k j s e s1) n ?_ ?_
      · exact ⟨0, by omega, by omega, rfl, by simp -implicitDefEqProofs (disch := first | omega | (simp only [St.set_n, St.up_n, List.length_cons, List.length_nil]; omega)) only [go_sem, Nat.reduceAdd, Nat.reduceMul, Nat.reduceSub, Int.reduceAdd, Int.reduceMul, Int.reduceSub, Int.reduceNeg, Int.reduceToNat, q7], by simp -implicitDefEqProofs (disch := first | omega | (simp only [St.set_n, St.up_n, List.length_cons, List.length_nil]; omega)) only [go_sem, Nat.reduceAdd, Nat.reduceMul, Nat.reduceSub, Int.reduceAdd, Int.reduceMul, Int.reduceSub, Int.reduceNeg, Int.reduceToNat, q8], by simp -implicitDefEqProofs (disch := first | omega | (simp only [St.set_n, St.up_n, List.length_cons, List.length_nil]; omega)) only [go_sem, Nat.reduceAdd, Nat.reduceMul, Nat.reduceSub, Int.reduceAdd, Int.reduceMul, Int.reduceSub, Int.reduceNeg, Int.reduceToNat]; rfl, by simp -implicitDefEqProofs (disch := first | omega | (simp only [St.set_n, St.up_n, List.length_cons, List.length_nil]; omega)) only [go_sem, Nat.reduceAdd, Nat.reduceMul, Nat.reduceSub, Int.reduceAdd, Int.reduceMul, Int.reduceSub, Int.reduceNeg, Int.reduceToNat, hd]⟩
      · rintro m e s1 hw1 ⟨j, hm', hj, ⟨rfl, q7, q8, q14, hd⟩⟩
        by_cases hjn : (j : Int) < n
        · simp -implicitDefEqProofs (disch := first | omega | (simp only [St.set_n, St.up_n, List.length_cons, List.length_nil]; omega)) only [go_sem, Nat.reduceAdd, Nat.reduceMul, Nat.reduceSub, Int.reduceAdd, Int.reduceMul, Int.reduceSub, Int.reduceNeg, Int.reduceToNat, q7, q8, q14, hroot, hjn]
          refine callF_of (ring_seq hF.ring ?_)
          simp -implicitDefEqProofs (disch := first | omega | (simp only [St.set_n, St.up_n, List.length_cons, List.length_nil]; omega)) only [go_sem, Nat.reduceAdd, Nat.reduceMul, Nat.reduceSub, Int.reduceAdd, Int.reduceMul, Int.reduceSub, Int.reduceNeg, Int.reduceToNat, q7, q8, q14, hroot, hjn]
          refine callF_of (refr_seq hF.rr ?_)
          simp -implicitDefEqProofs (disch := first | omega | (simp only [St.set_n, St.up_n, List.length_cons, List.length_nil]; omega)) only [go_sem, Nat.reduceAdd, Nat.reduceMul, Nat.reduceSub, Int.reduceAdd, Int.reduceMul, Int.reduceSub, Int.reduceNeg, Int.reduceToNat, q7, q8, q14, hroot, hjn]
          exact ⟨n - (j + 1), by omega, j + 1, rfl, by omega, rfl, by simp -implicitDefEqProofs (disch := first | omega | (simp only [St.set_n, St.up_n, List.length_cons, List.length_nil]; omega)) only [go_sem, Nat.reduceAdd, Nat.reduceMul, Nat.reduceSub, Int.reduceAdd, Int.reduceMul, Int.reduceSub, Int.reduceNeg, Int.reduceToNat, q7], by simp -implicitDefEqProofs (disch := first | omega | (simp only [St.set_n, St.up_n, List.length_cons, List.length_nil]; omega)) only [go_sem, Nat.reduceAdd, Nat.reduceMul, Nat.reduceSub, Int.reduceAdd, Int.reduceMul, Int.reduceSub, Int.reduceNeg, Int.reduceToNat, q8], by simp -implicitDefEqProofs (disch := first | omega | (simp only [St.set_n, St.up_n, List.length_cons, List.length_nil]; omega)) only [go_sem, Nat.reduceAdd, Nat.reduceMul, Nat.reduceSub, Int.reduceAdd, Int.reduceMul, Int.reduceSub, Int.reduceNeg, Int.reduceToNat]; rfl, by simp -implicitDefEqProofs (disch := first | omega | (simp only [St.set_n, St.up_n, List.length_cons, List.length_nil]; omega)) only [go_sem, Nat.reduceAdd, Nat.reduceMul, Nat.reduceSub, Int.reduceAdd, Int.reduceMul, Int.reduceSub, Int.reduceNeg, Int.reduceToNat, hd]⟩
        · simp -implicitDefEqProofs (disch := first | omega | (simp only [St.set_n, St.up_n, List.length_cons, List.length_nil]; omega)) only [go_sem, Nat.reduceAdd, Nat.reduceMul, Nat.reduceSub, Int.reduceAdd, Int.reduceMul, Int.reduceSub, Int.reduceNeg, Int.reduceToNat, q7, q8, q14, hroot, hjn]
          refine effD_plan [0, 1, 0, 4, 12, 28, 63, 127, 255, 511, 255, 1279, 3327, 7423, 16383, 32767, 65535] [0, 2, 3, 4, 5, 7, 8, 10, 11, 12, 13, 15, 16] (.eag 0 (.eag 2 (.eag 3 (.eag 4 (.eagq 5 (.alt 1 [5] (.alt 6 [] (.eag 7 (.eag 8 (.eag 10 (.eag 11 (.eag 12 (.eagq 13 (.alt 9 [13] (.alt 14 [] (.eag 15 (.eag 16 .fin)) .stop) .stop))))))) .stop) .stop)))))) (by kernel_rfl) ?_
          simp -implicitDefEqProofs (disch := first | omega | (simp only [St.set_n, St.up_n, List.length_cons, List.length_nil]; omega)) only [go_sem, Nat.reduceAdd, Nat.reduceMul, Nat.reduceSub, Int.reduceAdd, Int.reduceMul, Int.reduceSub, Int.reduceNeg, Int.reduceToNat, q7, q8, hroot]
          have hfull := hF.rr.full
          have hsn := hF.sn
          refine callF_wf (ring_list hF.ring fun wl τ1 hol hbl hkl hnl hwl => ?_)
          have k1 : ∀ c x, s1.m c = some x → τ1.m c = some x := fun c x hx => hkl c x (hw1.2 _ _ hx).2 hx
          have hRR1 := isRR_keep hF.rr fun c x _ hx => k1 c x hx
          have hRn1 := isRing_keep hF.ring fun c x _ hx => k1 c x hx
          have hroot1 := hRR1.root
          simp -implicitDefEqProofs (disch := first | omega | (simp only [St.set_n, St.up_n, List.length_cons, List.length_nil]; omega)) only [go_sem, Nat.reduceAdd, Nat.reduceMul, Nat.reduceSub, Int.reduceAdd, Int.reduceMul, Int.reduceSub, Int.reduceNeg, Int.reduceToNat, q7, q8, hroot1]
          refine callF_of (same_ints (by omega) hol hRR1.own ?_)
          rw [show decide (L = L) = true by simp]
          simp -implicitDefEqProofs (disch := first | omega | (simp only [St.set_n, St.up_n, List.length_cons, List.length_nil]; omega)) only [go_sem, Nat.reduceAdd, Nat.reduceMul, Nat.reduceSub, Int.reduceAdd, Int.reduceMul, Int.reduceSub, Int.reduceNeg, Int.reduceToNat, q7, q8, hroot1]
          refine callF_wf (ring_list hRn1 fun wl2 τ2 hol2 hbl2 hkl2 hnl2 hwl2 => ?_)
          have k2 : ∀ c x, τ1.m c = some x → τ2.m c = some x := fun c x hx => hkl2 c x (hwl.2 _ _ hx).2 hx
          have hRR2 := isRR_keep hRR1 fun c x _ hx => k2 c x hx
          have hroot2 := hRR2.root
          simp -implicitDefEqProofs (disch := first | omega | (simp only [St.set_n, St.up_n, List.length_cons, List.length_nil]; omega)) only [go_sem, Nat.reduceAdd, Nat.reduceMul, Nat.reduceSub, Int.reduceAdd, Int.reduceMul, Int.reduceSub, Int.reduceNeg, Int.reduceToNat, q7, q8, hroot2]
          refine callF_of (same_ints (by omega) hol2 hRR2.own ?_)
          rw [show decide (L = L) = true by simp]
          simp -implicitDefEqProofs (disch := first | omega | (simp only [St.set_n, St.up_n, List.length_cons, List.length_nil]; omega)) only [go_sem, Nat.reduceAdd, Nat.reduceMul, Nat.reduceSub, Int.reduceAdd, Int.reduceMul, Int.reduceSub, Int.reduceNeg, Int.reduceToNat, q7, q8, hroot2, hd]
          refine ⟨_, To.same (fun d y h2 h3 => ?_) hwf, hK _ (by omega)⟩
          exact k2 _ _ (k1 _ _ (hF.old _ _ h2 h3))
end
end Go.Proofs.Ytbjgoajdfdonfaa
