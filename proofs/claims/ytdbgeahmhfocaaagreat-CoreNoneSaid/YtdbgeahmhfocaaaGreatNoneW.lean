/- 'CoreNone': the walk. -/
import Derived.Test.YtdbgeahmhfocaaaGreatNoneP
namespace Go.Proofs.YtdbgeahmhfocaaaGreat
set_option linter.unusedSimpArgs false
set_option linter.unusedVariables false
set_option maxRecDepth 100000
open Go Go.RowKit
section
variable {B : World} {σ : St} {K : Value → St → Prop}
def noG (x : List Int × (Nat → List Unit)) : Prop := x.1.length + (x.2 0).length + (x.2 1).length ≤ 2
theorem no_pre {p : Nat} : ∀ (x : List Int × (Nat → List Unit)) t a r, noG x → t < 2 → x.2 t = a :: r → (noL (B := B) p).pre t x.1 a := by
  rintro ⟨u, T⟩ t a r h ht hx
  show u.length ≤ 100000
  simp only [noG] at h
  omega
theorem no_step {p : Nat} : ∀ (x : List Int × (Nat → List Unit)) t, noG x → t < 2 → x.2 t ≠ [] → noG (lgTr (L := noL (B := B) p) x t).1 := by
  rintro ⟨u, T⟩ t h ht hx
  unfold lgTr
  simp only at hx ⊢
  cases hT : T t with
  | nil => exact absurd hT hx
  | cons a r =>
    simp only [noX, noG] at h ⊢
    have : t = 0 ∨ t = 1 := by omega
    rcases this with rfl | rfl
    · simp [updL, hT] at h ⊢; omega
    · simp [updL, hT] at h ⊢; omega
abbrev noS (B : World) (p : Nat) : Sys B := lgSys (noL (B := B) p) 2 noG no_pre no_step
def noX0 : List Int × (Nat → List Unit) := ([], updL (updL (fun _ => []) 0 [()]) 1 [()])
theorem no_run {p : Nat} : (Sys.loopA (Y := noS B p) 70000 (Sys.picksA ⟨noX0, [], 0⟩ [])).2 = 0 ∧ (Sys.loopA (Y := noS B p) 70000 (Sys.picksA ⟨noX0, [], 0⟩ [])).1.x.1 = [4, 4] := ⟨by kernel_rfl, by kernel_rfl⟩
structure NoJ (σ : St) (p : Nat) (who sub : Int) (e : Fr) (s : St) : Prop where
  v0 : e.v 0 = .int .i64 who
  v1 : e.v 1 = .int .i64 sub
  v5 : e.v 5 = .pointer none
  v6 : e.v 6 = .pointer (some ⟨p, 0, none⟩)
  d : e.d = []
  m : s.m p = some (.comp (GotR [] p))
  hp : σ.n ≤ p
  old : ∀ c y, σ.m c = some y → s.m c = some y
  n : σ.n ≤ s.n
set_option maxHeartbeats 4000000 in
theorem none22 {who sub : Int} (hK : ∀ k, σ.n ≤ k → K (.bool true) (σ.up k)) : Fn Tryz.prog B 4 #[.int .i64 who, .int .i64 sub] σ K := by
  refine Fn.ofS is4 (by simp) fun hwf => ?_
  have hB := hwf.1
  simp only [b4, Tryz.f4, Option.getD_some]
  refine SemS.seqw fun _ => ?_
  simp -implicitDefEqProofs (disch := first | omega | (simp only [St.set_n, St.up_n, List.length_cons, List.length_nil]; omega)) only [go_sem, Nat.reduceAdd, Nat.reduceMul, Nat.reduceSub, Int.reduceAdd, Int.reduceMul, Int.reduceSub, Int.reduceNeg, Int.reduceToNat]
  refine SemS.seqw fun _ => ?_
  simp -implicitDefEqProofs (disch := first | omega | (simp only [St.set_n, St.up_n, List.length_cons, List.length_nil]; omega)) only [go_sem, Nat.reduceAdd, Nat.reduceMul, Nat.reduceSub, Int.reduceAdd, Int.reduceMul, Int.reduceSub, Int.reduceNeg, Int.reduceToNat]
  refine callF_of (awake22 fun k0 hk0 => ?_)
  simp -implicitDefEqProofs (disch := first | omega | (simp only [St.set_n, St.up_n, List.length_cons, List.length_nil]; omega)) only [go_sem, Nat.reduceAdd, Nat.reduceMul, Nat.reduceSub, Int.reduceAdd, Int.reduceMul, Int.reduceSub, Int.reduceNeg, Int.reduceToNat]
  refine SemS.seqw fun _ => ?_
  simp -implicitDefEqProofs (disch := first | omega | (simp only [St.set_n, St.up_n, List.length_cons, List.length_nil]; omega)) only [go_sem, Nat.reduceAdd, Nat.reduceMul, Nat.reduceSub, Int.reduceAdd, Int.reduceMul, Int.reduceSub, Int.reduceNeg, Int.reduceToNat]
  refine SemS.seq (fun e s => ∃ p, NoJ σ p who sub e s) ?_ ?_
  · refine SemS.wp fun _ => ?_
    simp -implicitDefEqProofs (disch := first | omega | (simp only [St.set_n, St.up_n, List.length_cons, List.length_nil]; omega)) only [go_sem, Nat.reduceAdd, Nat.reduceMul, Nat.reduceSub, Int.reduceAdd, Int.reduceMul, Int.reduceSub, Int.reduceNeg, Int.reduceToNat]
    refine ⟨_, To.closeO (σ := σ.up k0) (ty := 62) (root := rootG) (sp := spG []) (p := k0) [.slice none 0 0] (by simp -implicitDefEqProofs (disch := first | omega | (simp only [St.set_n, St.up_n, List.length_cons, List.length_nil]; omega)) only [go_sem, Nat.reduceAdd, Nat.reduceMul, Nat.reduceSub, Int.reduceAdd, Int.reduceMul, Int.reduceSub, Int.reduceNeg, Int.reduceToNat]) ⟨Own.nil, trivial⟩ (by simp -implicitDefEqProofs (disch := first | omega | (simp only [St.set_n, St.up_n, List.length_cons, List.length_nil]; omega)) only [go_sem, Nat.reduceAdd, Nat.reduceMul, Nat.reduceSub, Int.reduceAdd, Int.reduceMul, Int.reduceSub, Int.reduceNeg, Int.reduceToNat]) (fun c x hc hx => ⟨by have hx' : σ.m c = some x := hx; simp -implicitDefEqProofs (disch := first | omega | (simp only [St.set_n, St.up_n, List.length_cons, List.length_nil]; omega)) only [go_sem, Nat.reduceAdd, Nat.reduceMul, Nat.reduceSub, Int.reduceAdd, Int.reduceMul, Int.reduceSub, Int.reduceNeg, Int.reduceToNat, hx'], by simp -implicitDefEqProofs (disch := first | omega | (simp only [St.set_n, St.up_n, List.length_cons, List.length_nil]; omega)) only [go_sem, Nat.reduceAdd, Nat.reduceMul, Nat.reduceSub, Int.reduceAdd, Int.reduceMul, Int.reduceSub, Int.reduceNeg, Int.reduceToNat]⟩), k0, ⟨by simp -implicitDefEqProofs (disch := first | omega | (simp only [St.set_n, St.up_n, List.length_cons, List.length_nil]; omega)) only [go_sem, Nat.reduceAdd, Nat.reduceMul, Nat.reduceSub, Int.reduceAdd, Int.reduceMul, Int.reduceSub, Int.reduceNeg, Int.reduceToNat], by simp -implicitDefEqProofs (disch := first | omega | (simp only [St.set_n, St.up_n, List.length_cons, List.length_nil]; omega)) only [go_sem, Nat.reduceAdd, Nat.reduceMul, Nat.reduceSub, Int.reduceAdd, Int.reduceMul, Int.reduceSub, Int.reduceNeg, Int.reduceToNat], by simp -implicitDefEqProofs (disch := first | omega | (simp only [St.set_n, St.up_n, List.length_cons, List.length_nil]; omega)) only [go_sem, Nat.reduceAdd, Nat.reduceMul, Nat.reduceSub, Int.reduceAdd, Int.reduceMul, Int.reduceSub, Int.reduceNeg, Int.reduceToNat], by simp -implicitDefEqProofs (disch := first | omega | (simp only [St.set_n, St.up_n, List.length_cons, List.length_nil]; omega)) only [go_sem, Nat.reduceAdd, Nat.reduceMul, Nat.reduceSub, Int.reduceAdd, Int.reduceMul, Int.reduceSub, Int.reduceNeg, Int.reduceToNat], by simp -implicitDefEqProofs (disch := first | omega | (simp only [St.set_n, St.up_n, List.length_cons, List.length_nil]; omega)) only [go_sem, Nat.reduceAdd, Nat.reduceMul, Nat.reduceSub, Int.reduceAdd, Int.reduceMul, Int.reduceSub, Int.reduceNeg, Int.reduceToNat], by simp -implicitDefEqProofs (disch := first | omega | (simp only [St.set_n, St.up_n, List.length_cons, List.length_nil]; omega)) only [go_sem, Nat.reduceAdd, Nat.reduceMul, Nat.reduceSub, Int.reduceAdd, Int.reduceMul, Int.reduceSub, Int.reduceNeg, Int.reduceToNat], by omega, fun c y hx => ?_, by simp only [St.up_n]; omega⟩⟩
    have := (hwf.2 _ _ hx).2
    simp -implicitDefEqProofs (disch := first | omega | (simp only [St.set_n, St.up_n, List.length_cons, List.length_nil]; omega)) only [go_sem, Nat.reduceAdd, Nat.reduceMul, Nat.reduceSub, Int.reduceAdd, Int.reduceMul, Int.reduceSub, Int.reduceNeg, Int.reduceToNat, hx]
  rintro e s hws ⟨p, ⟨q0, q1, q5, q6, hd, hm, hp, hold, hn⟩⟩
  refine SemS.seqw fun _ => ?_
  simp -implicitDefEqProofs (disch := first | omega | (simp only [St.set_n, St.up_n, List.length_cons, List.length_nil]; omega)) only [go_sem, Nat.reduceAdd, Nat.reduceMul, Nat.reduceSub, Int.reduceAdd, Int.reduceMul, Int.reduceSub, Int.reduceNeg, Int.reduceToNat, q0, q1, q5, q6]
  refine SemS.seqw fun _ => ?_
  simp -implicitDefEqProofs (disch := first | omega | (simp only [St.set_n, St.up_n, List.length_cons, List.length_nil]; omega)) only [go_sem, Nat.reduceAdd, Nat.reduceMul, Nat.reduceSub, Int.reduceAdd, Int.reduceMul, Int.reduceSub, Int.reduceNeg, Int.reduceToNat, q0, q1, q5, q6]
  refine SemS.seqw fun _ => ?_
  simp -implicitDefEqProofs (disch := first | omega | (simp only [St.set_n, St.up_n, List.length_cons, List.length_nil]; omega)) only [go_sem, Nat.reduceAdd, Nat.reduceMul, Nat.reduceSub, Int.reduceAdd, Int.reduceMul, Int.reduceSub, Int.reduceNeg, Int.reduceToNat, q0, q1, q5, q6]
  have hlt : ∀ c y, s.m c = some y → c < s.n := fun c y hx => (hws.2 _ _ hx).2
  have hI0 := lgI_empty (B := B) (ex := noX) (pre := fun _ u _ => u.length ≤ 100000) (H := noU p) (u := []) (G := fun c => c < σ.n) (s := s) (fun c hc => Nat.lt_of_lt_of_le hc hn) fun c y hy => by
    unfold noU at hy
    split at hy
    · rename_i e; subst e; cases hy
      exact ⟨hm, by omega⟩
    · cases hy
  refine callF_of (hI0.call (T := [()]) (n := 1) hws (fun G' K' hE hK' => poll_nil no_next hE hK') fun v0 s1 hI1 hk1 hn1 hw1 hv0 => ?_)
  simp -implicitDefEqProofs (disch := first | omega | (simp only [St.set_n, St.up_n, List.length_cons, List.length_nil]; omega)) only [go_sem, Nat.reduceAdd, Nat.reduceMul, Nat.reduceSub, Int.reduceAdd, Int.reduceMul, Int.reduceSub, Int.reduceNeg, Int.reduceToNat, q0, q1, q5, q6]
  refine callF_of (hI1.call (T := [()]) (n := 1) hw1 (fun G' K' hE hK' => drops_nil no_next hE hK') fun v1 s2 hI2 hk2 hn2 hw2 hv1 => ?_)
  simp -implicitDefEqProofs (disch := first | omega | (simp only [St.set_n, St.up_n, List.length_cons, List.length_nil]; omega)) only [go_sem, Nat.reduceAdd, Nat.reduceMul, Nat.reduceSub, Int.reduceAdd, Int.reduceMul, Int.reduceSub, Int.reduceNeg, Int.reduceToNat]
  refine bslK_ones (vs := [v0, v1]) se45 zr50 rfl (two_one hv0 hv1) rfl rfl (by omega) ?_
  simp only [List.nil_append, List.cons_append] at hI2
  have hkb : ∀ c y, s2.m c = some y → ((s2.set s2.n (.raw (.cells [v0, v1].toArray 50 (0, 0)))).up (s2.n + 1)).m c = some y := fun c y hx => by
    have := (hw2.2 _ _ hx).2
    simp -implicitDefEqProofs (disch := first | omega | (simp only [St.set_n, St.up_n, List.length_cons, List.length_nil]; omega)) only [go_sem, Nat.reduceAdd, Nat.reduceMul, Nat.reduceSub, Int.reduceAdd, Int.reduceMul, Int.reduceSub, Int.reduceNeg, Int.reduceToNat, hx]
  have hwb := set_wf1 (y := .raw (.cells [v0, v1].toArray 50 (0, 0))) hw2
  have hmb : ((s2.set s2.n (.raw (.cells [v0, v1].toArray 50 (0, 0)))).up (s2.n + 1)).m s2.n = some (.raw (.cells [v0, v1].toArray 50 (0, 0))) := by simp -implicitDefEqProofs (disch := first | omega | (simp only [St.set_n, St.up_n, List.length_cons, List.length_nil]; omega)) only [go_sem, Nat.reduceAdd, Nat.reduceMul, Nat.reduceSub, Int.reduceAdd, Int.reduceMul, Int.reduceSub, Int.reduceNeg, Int.reduceToNat]
  have hnb : s2.n ≤ ((s2.set s2.n (.raw (.cells [v0, v1].toArray 50 (0, 0)))).up (s2.n + 1)).n := by simp only [St.up_n]; omega
  generalize (s2.set s2.n (.raw (.cells [v0, v1].toArray 50 (0, 0)))).up (s2.n + 1) = s3 at hkb hwb hmb hnb ⊢
  have hI3 := LgI.keep hI2 hkb hnb
  have hσ3 : ∀ c y, σ.m c = some y → s3.m c = some y := fun c y hx => hkb _ _ (hk2 c y (hwf.2 _ _ hx).2 (hk1 c y (hwf.2 _ _ hx).2 (hold c y hx)))
  simp -implicitDefEqProofs (disch := first | omega | (simp only [St.set_n, St.up_n, List.length_cons, List.length_nil]; omega)) only [go_sem, Nat.reduceAdd, Nat.reduceMul, Nat.reduceSub, Int.reduceAdd, Int.reduceMul, Int.reduceSub, Int.reduceNeg, Int.reduceToNat]
  obtain ⟨R, hR⟩ : ∃ R, Sys.loopA (Y := noS B p) 70000 (Sys.picksA ⟨noX0, [], 0⟩ []) = R := ⟨_, rfl⟩
  obtain ⟨r1, r2⟩ := no_run (B := B) (p := p)
  rw [hR] at r1 r2
  refine callF_wf (Fn.kopen (p := p) (ty := 62) (root := rootG) (m_run (Y := noS B p) (x0 := noX0) (vs := [v0, v1]) ⟨hI3, (by unfold noG noX0; simp [updL])⟩ (show (2 : Nat) ≤ 1000 by omega) (by simp) ⟨⟨_, _, rfl⟩, fc_block hmb rfl⟩ (fun s hs => fc_block (by rw [hs _ (hwb.2 _ _ hmb).2]; exact hmb) rfl) slR_nil hR fun mv vs' s6 om hI6 hn6 hk6 =>
    ⟨spG [4, 4], r2 ▸ LgI.at (H := noU p) hI6.1 noU_p, fun vs τ hwτ hnτ hO hfr hw6 => ?_⟩))
  rw [r1]
  obtain ⟨Am, cm, rfl, _⟩ := om.is
  obtain ⟨v, rfl, o1⟩ := hO.own.one
  simp only at o1
  have hroot := hO.root
  simp only [rootG_one] at hroot
  obtain ⟨bv, cv, spv, rfl, hcv, mv7, _, _⟩ := o1.has (by decide)
  have hpn := (hwτ.2 _ _ hroot).2
  have hbn := (hwτ.2 _ _ mv7).2
  have e5 : ints [4, 4] = [.int .i64 4, .int .i64 4] := rfl
  rw [e5] at mv7
  have e4 : (([4, 4] : List Int).length) = 2 := rfl
  rw [e4] at hroot
  have hστ : ∀ c y, σ.m c = some y → τ.m c = some y := fun c y hx => by
    have h1 := (hwf.2 _ _ hx).2
    exact (hfr c y (by omega) (hk6 c y h1 (hσ3 c y hx))).1
  simp -implicitDefEqProofs (disch := first | omega | (simp only [St.set_n, St.up_n, List.length_cons, List.length_nil]; omega)) only [go_sem, Nat.reduceAdd, Nat.reduceMul, Nat.reduceSub, Int.reduceAdd, Int.reduceMul, Int.reduceSub, Int.reduceNeg, Int.reduceToNat]
  refine SemS.wp fun _ => ?_
  simp -implicitDefEqProofs (disch := first | omega | (simp only [St.set_n, St.up_n, List.length_cons, List.length_nil]; omega)) only [go_sem, Nat.reduceAdd, Nat.reduceMul, Nat.reduceSub, Int.reduceAdd, Int.reduceMul, Int.reduceSub, Int.reduceNeg, Int.reduceToNat, hroot, mv7, q1, q5, q6]
  have hs8 : ∀ c y, σ.m c = some y → ((τ.set τ.n (.raw (.cells #[.slice Am R.1.mv.length cm, .int .i64 R.1.ca, .int .i64 0] 54 (0, 0)))).up (τ.n + 1)).m c = some y := fun c y hx => by
    have h1 := hστ c y hx
    have := (hwτ.2 _ _ h1).2
    simp -implicitDefEqProofs (disch := first | omega | (simp only [St.set_n, St.up_n, List.length_cons, List.length_nil]; omega)) only [go_sem, Nat.reduceAdd, Nat.reduceMul, Nat.reduceSub, Int.reduceAdd, Int.reduceMul, Int.reduceSub, Int.reduceNeg, Int.reduceToNat, h1]
  have hn8 : σ.n ≤ ((τ.set τ.n (.raw (.cells #[.slice Am R.1.mv.length cm, .int .i64 R.1.ca, .int .i64 0] 54 (0, 0)))).up (τ.n + 1)).n := by simp only [St.up_n]; omega
  generalize ((τ.set τ.n (.raw (.cells #[.slice Am R.1.mv.length cm, .int .i64 R.1.ca, .int .i64 0] 54 (0, 0)))).up (τ.n + 1)) = s8 at hs8 hn8 ⊢
  have e0 : (#[.string ⟨#[]⟩, .string ⟨#[]⟩, .bool false] : Array Value) = (fM m0).toArray := rfl
  rw [e0]
  refine callF_of (put_nil fun s9 hn9 hk9 => ?_)
  simp -implicitDefEqProofs (disch := first | omega | (simp only [St.set_n, St.up_n, List.length_cons, List.length_nil]; omega)) only [go_sem, Nat.reduceAdd, Nat.reduceMul, Nat.reduceSub, Int.reduceAdd, Int.reduceMul, Int.reduceSub, Int.reduceNeg, Int.reduceToNat, q5]
  refine callF_of (quiet_nil ?_)
  simp -implicitDefEqProofs (disch := first | omega | (simp only [St.set_n, St.up_n, List.length_cons, List.length_nil]; omega)) only [go_sem, Nat.reduceAdd, Nat.reduceMul, Nat.reduceSub, Int.reduceAdd, Int.reduceMul, Int.reduceSub, Int.reduceNeg, Int.reduceToNat, q5]
  refine callF_of (faults_nil ?_)
  simp -implicitDefEqProofs (disch := first | omega | (simp only [St.set_n, St.up_n, List.length_cons, List.length_nil]; omega)) only [go_sem, Nat.reduceAdd, Nat.reduceMul, Nat.reduceSub, Int.reduceAdd, Int.reduceMul, Int.reduceSub, Int.reduceNeg, Int.reduceToNat, q5]
  refine callF_of (idle_nil ?_)
  simp -implicitDefEqProofs (disch := first | omega | (simp only [St.set_n, St.up_n, List.length_cons, List.length_nil]; omega)) only [go_sem, Nat.reduceAdd, Nat.reduceMul, Nat.reduceSub, Int.reduceAdd, Int.reduceMul, Int.reduceSub, Int.reduceNeg, Int.reduceToNat, hd]
  exact ⟨_, To.same (fun d y h2 h3 => hk9 d y (hs8 d y h3)) hwf, hK _ (by omega)⟩
end
end Go.Proofs.YtdbgeahmhfocaaaGreat
